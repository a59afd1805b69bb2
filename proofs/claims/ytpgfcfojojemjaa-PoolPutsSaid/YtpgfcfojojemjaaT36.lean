/- punnetref26: At. -/
import Derived.Test.YtpgfcfojojemjaaT34
import Derived.Test.YtpgfcfojojemjaaT35
namespace Go.PV
open Go.Proofs
set_option linter.unusedVariables false
set_option linter.unusedSimpArgs false
set_option maxRecDepth 10000
set_option maxHeartbeats 1000000

def isB (r n : Int) (o : OpS) : Bool := o.idR == r && o.idN == n
/-- the number of the op of a tag; below 0: there is none -/
def atL (l : List OpS) (r n : Int) : Int := match l.findIdx? (isB r n) with
  | some i => (i : Int)
  | none => -1
theorem atL_some {l : List OpS} {r n : Int} {t : Nat} {o : OpS} (h : (l.take t).any (isB r n) = false) (ho : l[t]? = some o) (hb : isB r n o = true) : atL l r n = (t : Int) := by
  have : l.findIdx? (isB r n) = some t := by
    rw [List.findIdx?_eq_some_iff_getElem]
    have ht := (List.getElem?_eq_some_iff.1 ho)
    refine ⟨ht.1,by rw [ht.2]; exact hb,fun j hj => ?_⟩
    have ht1 := ht.1
    have hj2 : j < l.length := by omega
    cases hc : isB r n l[j] with
    | false => simp
    | true =>
      have : (l.take t).any (isB r n) = true := List.any_eq_true.2 ⟨l[j],List.mem_take_iff_getElem.2 ⟨j,by omega,rfl⟩,hc⟩
      rw [h] at this; cases this
  rw [atL,this]
theorem atL_none {l : List OpS} {r n : Int} (h : l.any (isB r n) = false) : atL l r n = -1 := by
  have : l.findIdx? (isB r n) = none := by
    rw [List.findIdx?_eq_none_iff]
    intro o ho
    cases hc : isB r n o with
    | false => rfl
    | true => rw [List.any_eq_true.2 ⟨o,ho,hc⟩] at h; cases h
  rw [atL,this]
theorem atL_get {l : List OpS} {r n : Int} (h : 0 ≤ atL l r n) : ∃ o, l[(atL l r n).toNat]? = some o ∧ isB r n o = true := by
  unfold atL at h ⊢
  cases hf : l.findIdx? (isB r n) with
  | none => rw [hf] at h; exact absurd h (by decide)
  | some i =>
    rw [List.findIdx?_eq_some_iff_getElem] at hf
    obtain ⟨h1,h2,_⟩ := hf
    exact ⟨l[i],by simp,h2⟩
theorem atL_lt {l : List OpS} {r n : Int} (h : atL l r n < 0) : ∀ o ∈ l, isB r n o = false := by
  unfold atL at h
  cases hf : l.findIdx? (isB r n) with
  | none => rw [List.findIdx?_eq_none_iff] at hf; exact hf
  | some i => rw [hf] at h; simp at h; omega
theorem c_punnet_punnetref26_At (l : List OpS) (x : V) (hx : PS l x) (a c : Int) (hl : l.length ≤ maxLen) : VC Try.prog 40 [x, tagV a c] [] (fun r _ => r = .int .i64 (atL l a c)) := by
 refine VC_enter (nt := 20) (rs := [.tmp 4]) (ow := []) (m := 0) Try.func40 rfl (by rfl) rfl rfl (by simp) (by simp only [ownOf,List.flatMap_cons,List.flatMap_nil,hx.toks,tag_toks,List.append_nil]) rfl (fun n => ?_)
 simp only [zipT,Nat.zero_add]
 have hi := True.intro
 have hw := True.intro
 refine WC_seqR (fun N1 hN1 hD1 => ?_)
 simp only [sS,↓sT,Nat.reduceLT,Nat.reduceEqDiff,↓sO,↓WOps_g,sG,opV,loudV,cellsOf,strOp,evL,Nat.reduceAdd,Int.reduceBEq,Int.reduceBNe,hx.len,hi,hw,opCells,List.drop_zero,tag_load2,tag_eql,tag_cells,tag_load,tag_isC,tag_full,ti3,ti49,ti25]
 refine hN1 _ ?_; try clear hN1 hD1 N1
 refine WC_seqN (fun N2 hN2 hD2 => ?_)
 refine WC_seqR (fun N3 hN3 hD3 => ?_)
 simp only [sS,↓sT,Nat.reduceLT,Nat.reduceEqDiff,↓sO,↓WOps_g,sG,opV,loudV,cellsOf,strOp,evL,Nat.reduceAdd,Int.reduceBEq,Int.reduceBNe,hx.len,hi,hw,opCells,List.drop_zero,tag_load2,tag_eql,tag_cells,tag_load,tag_isC,tag_full,ti3,ti49,ti25]
 refine hN3 _ ?_; try clear hN3 hD3 N3
 refine WC_block ?_
 refine WC_loopG (σ := Nat) (fun k s => ∃ ps,s = ⟨mkS 20 ps, [[.int .i64 a, .int .i64 c]], [],n⟩ ∧ Has ps [(0,x),(3, .ptr 0 0),(5, .int .i64 k)] ∧ k ≤ l.length ∧ (l.take k).any (isB a c) = false) (fun k => l.length - k) 0 ?_ (fun k s hI => ?_)
 · exact ⟨_,rfl,⟨rfl,rfl,rfl,trivial⟩,Nat.zero_le _,rfl⟩
 obtain ⟨ps,rfl,hps,hk,hh⟩ := hI
 refine WC_has hps ?_; clear hps ps
 refine WC_seqN (fun N4 hN4 hD4 => ?_)
 refine WC_seqR (fun N5 hN5 hD5 => ?_)
 simp only [sS,↓sT,Nat.reduceLT,Nat.reduceEqDiff,↓sO,↓WOps_g,sG,opV,loudV,cellsOf,strOp,evL,Nat.reduceAdd,Int.reduceBEq,Int.reduceBNe,ti52,hx.len,hi,hw,opCells,List.drop_zero,tag_load2,tag_eql,tag_cells,tag_load,tag_isC,tag_full,ti3,ti49,ti25]
 refine hN5 _ ?_; try clear hN5 hD5 N5
 refine WC_condE ?_
 simp only [sS,↓sT,Nat.reduceLT,Nat.reduceEqDiff,↓stepC_bool]
 refine ⟨fun hb6 => ?_,fun hb6 => ?_⟩
 ·have hk2 : k < l.length := by have := of_decide_eq_true hb6; omega
  obtain ⟨o,ho⟩ : ∃ o,l[k]? = some o := ⟨_,List.getElem?_eq_getElem hk2⟩
  have hi := hx.ia ho
  have hw : IntKind.i64.wrap ((k : Int) + 1) = (k : Int) + 1 := wrapI (by unfold maxLen at hl; omega) (by unfold maxLen at hl; omega)
  refine WC_skip ?_
  refine hN4 _ ?_; try clear hN4 hD4 N4
  refine WC_seqN (fun N7 hN7 hD7 => ?_)
  refine WC_block ?_
  refine WC_seqD mixed [] [0,0,0,0,0,0,0] (by decide +kernel) (fun N8 hN8 hD8 => ?_)
  simp only [sS,↓sT,Nat.reduceLT,Nat.reduceEqDiff,↓sD,↓D_g,memOk,lets0,lets1,List.not_mem_nil,not_false_eq_true,true_and,and_true,sG,opV,loudV,cellsOf,strOp,evL,Nat.reduceAdd,Int.reduceBEq,Int.reduceBNe,ti52,fS49,ti25,hx.len,hi,hw,opCells,List.drop_zero,tag_load2,tag_eql,tag_cells,tag_load,tag_isC,tag_full,ti3,ti49,hb6]
  refine hN8 _ ?_; try clear hN8 hD8 N8
  refine WC_condE ?_
  simp only [sS,↓sT,Nat.reduceLT,Nat.reduceEqDiff,↓stepC_bool,hb6,Int.reduceBEq,Int.reduceBNe,beq_self_eq_true,bne_self_eq_false]
  refine ⟨fun hb9 => ?_,fun hb9 => ?_⟩
  ·refine WC_seqR (fun N10 hN10 hD10 => ?_)
   simp only [sS,↓sT,Nat.reduceLT,Nat.reduceEqDiff,↓sO,↓WOps_g,sG,opV,loudV,cellsOf,strOp,evL,Nat.reduceAdd,Int.reduceBEq,Int.reduceBNe,hx.len,hi,hw,opCells,List.drop_zero,tag_load2,tag_eql,tag_cells,tag_load,tag_isC,tag_full,ti3,ti49,ti25,hb6,hb9]
   refine hN10 _ ?_; try clear hN10 hD10 N10
   refine WC_ret ?_; (try simp only [Exit.after,Exit.out]); refine Kend_ret (by simp only [resOf,resL,resV,mkS_get,slots_get,cellsOf,op_load,ti3,ti52,ti49,sS,↓sT,Nat.reduceLT,Nat.reduceEqDiff]; rfl) (by first | rfl | (simp only [op_load,ti3,ti52,ti49]; done) | (simp only [op_load,ti3,ti52,ti49,okV,ok1,okC,okP,List.all_cons,List.all_nil,Bool.and_true]; done)) ?_
   clear hN7 hD7 N7 hN2 hD2 N2
   first
   | (rw [keep_int,atL_some hh ho hb9]; done)
   | (have hk3 : k = l.length := by have := of_decide_eq_false hb6; omega
      rw [hk3,List.take_length] at hh
      rw [keep_int,atL_none hh]; done)
  ·refine WC_skip ?_
   refine hN7 _ ?_; try clear hN7 hD7 N7
   refine WC_regN (fun N11 hN11 => ?_)
   simp only [sS,↓sT,Nat.reduceLT,Nat.reduceEqDiff,↓sO,↓WOps_g,sG,opV,loudV,cellsOf,strOp,evL,Nat.reduceAdd,Int.reduceBEq,Int.reduceBNe,hx.len,hi,hw,opCells,List.drop_zero,tag_load2,tag_eql,tag_cells,tag_load,tag_isC,tag_full,ti3,ti49,ti25,hb6,hb9]
   refine hN11 _ ?_; try clear hN11 N11
   refine ⟨k + 1,⟨_,rfl,⟨rfl,rfl,rfl,trivial⟩,hk2, ?_⟩,by omega⟩
   rw [List.take_add_one,ho,Option.toList_some,List.any_append,hh,Bool.false_or,List.any_cons,List.any_nil,Bool.or_false]
   exact hb9
 ·refine WC_exit ?_
  refine hN2 _ ?_; try clear hN2 hD2 N2
  refine WC_seqR (fun N12 hN12 hD12 => ?_)
  simp only [sS,↓sT,Nat.reduceLT,Nat.reduceEqDiff,↓sO,↓WOps_g,sG,opV,loudV,cellsOf,strOp,evL,Nat.reduceAdd,Int.reduceBEq,Int.reduceBNe,hx.len,hi,hw,opCells,List.drop_zero,tag_load2,tag_eql,tag_cells,tag_load,tag_isC,tag_full,ti3,ti49,ti25,hb6]
  refine hN12 _ ?_; try clear hN12 hD12 N12
  refine WC_ret ?_; (try simp only [Exit.after,Exit.out]); refine Kend_ret (by simp only [resOf,resL,resV,mkS_get,slots_get,cellsOf,op_load,ti3,ti52,ti49,sS,↓sT,Nat.reduceLT,Nat.reduceEqDiff]; rfl) (by first | rfl | (simp only [op_load,ti3,ti52,ti49]; done) | (simp only [op_load,ti3,ti52,ti49,okV,ok1,okC,okP,List.all_cons,List.all_nil,Bool.and_true]; done)) ?_
  clear hN4 hD4 N4
  first
  | (rw [keep_int,atL_some hh ho hb9]; done)
  | (have hk3 : k = l.length := by have := of_decide_eq_false hb6; omega
     rw [hk3,List.take_length] at hh
     rw [keep_int,atL_none hh]; done)
end Go.PV
/- punnetref26: Sorted. -/
namespace Go.PV
open Go.Proofs
set_option linter.unusedVariables false
set_option linter.unusedSimpArgs false
set_option maxRecDepth 10000
set_option maxHeartbeats 1000000

/-- an op goes behind all that stand ahead of it -/
def insL (out : List OpS) (o : OpS) : List OpS := out.takeWhile (fun p => lessB p.idR p.idN o.idR o.idN) ++ o :: out.dropWhile (fun p => lessB p.idR p.idN o.idR o.idN)
def sortL (l : List OpS) : List OpS := l.foldl insL []
/-- a slice of ops, its room left open -/
def PX (l : List OpS) (c : V) : Prop := ∃ ex tok, c = .slice 15 (l.map opW) ex tok
theorem PX.len {l : List OpS} {c : V} (h : PX l c) : lenV Try.prog 52 c = some (.int .i64 l.length) := by
  obtain ⟨ex,tok,rfl⟩ := h; simp [lenV,ti52]
theorem PX.ia {l : List OpS} {c : V} (h : PX l c) {i : Nat} {o : OpS} (ho : l[i]? = some o) : indexAddrV Try.prog 52 c (.int .i64 i) = some (.rptr (opCells o)) := by
  obtain ⟨ex,tok,rfl⟩ := h; simp [indexAddrV,ti52,ti49,ho,op_cells]
theorem ins_len (out : List OpS) (o : OpS) : (insL out o).length = out.length + 1 := by
  have := congrArg List.length (List.takeWhile_append_dropWhile (p := fun p : OpS => lessB p.idR p.idN o.idR o.idN) (l := out))
  simp only [List.length_append] at this
  simp only [insL,List.length_append,List.length_cons]; omega
theorem sort_len (l : List OpS) : (sortL l).length = l.length := by
  have : ∀ (l out : List OpS),(l.foldl insL out).length = out.length + l.length := by
    intro l
    induction l with
    | nil => intro out; rfl
    | cons o l ih => intro out; rw [List.foldl_cons,ih,ins_len,List.length_cons]; omega
  rw [sortL,this]; simp
/-- what stands in the middle of three, appended one behind the other -/
theorem app_three (l1 l2 : List V) (o : OpS) (ow : List (Nat × Nat)) (n : Nat) (hl : l1.length + l2.length + 1 ≤ maxApp) (hn : ∀ q ∈ ow, q.1 < n) :
    ∃ y1 ow1 nx1 y2 ow2 nx2 y3 ow3 nx3,appendV (⟨.struct [(0,25),(2,25),(4,2),(5,9),(6,3),(7,9),(8,47),(11,2),(12,4),(13,9),(14,38)],15,176,some [.int .i64 0, .int .i64 0, .int .i64 0, .int .i64 0, .int .i64 0, .str [], .int .i64 0, .str [], .int .i64 0, .str [], .str [], .int .i64 0, .bool false, .str [], .nils]⟩ : TI) ow n (.slice 15 [] true none) l1 = some (y1,ow1,nx1) ∧ appendV (⟨.struct [(0,25),(2,25),(4,2),(5,9),(6,3),(7,9),(8,47),(11,2),(12,4),(13,9),(14,38)],15,176,some [.int .i64 0, .int .i64 0, .int .i64 0, .int .i64 0, .int .i64 0, .str [], .int .i64 0, .str [], .int .i64 0, .str [], .str [], .int .i64 0, .bool false, .str [], .nils]⟩ : TI) ow1 nx1 y1 [opW o] = some (y2,ow2,nx2) ∧
      appendV (⟨.struct [(0,25),(2,25),(4,2),(5,9),(6,3),(7,9),(8,47),(11,2),(12,4),(13,9),(14,38)],15,176,some [.int .i64 0, .int .i64 0, .int .i64 0, .int .i64 0, .int .i64 0, .str [], .int .i64 0, .str [], .int .i64 0, .str [], .str [], .int .i64 0, .bool false, .str [], .nils]⟩ : TI) ow2 nx2 y2 l2 = some (y3,ow3,nx3) ∧ (∃ tok,y3 = .slice 15 (l1 ++ opW o :: l2) false (some tok)) ∧ (∀ q ∈ ow3,q.1 < nx3) ∧ n < nx3 := by
  have hf : ow.filter (fun q => q.1 != n) = ow := List.filter_eq_self.2 fun q hq => by have := hn q hq; simp; omega
  have step2 : ∀ (m : List V),m.length + 1 ≤ maxApp → ∃ y2 ow2 nx2,(∃ y1 ow1 nx1,appendV (⟨.struct [(0,25),(2,25),(4,2),(5,9),(6,3),(7,9),(8,47),(11,2),(12,4),(13,9),(14,38)],15,176,some [.int .i64 0, .int .i64 0, .int .i64 0, .int .i64 0, .int .i64 0, .str [], .int .i64 0, .str [], .int .i64 0, .str [], .str [], .int .i64 0, .bool false, .str [], .nils]⟩ : TI) ow n (.slice 15 [] true none) m = some (y1,ow1,nx1) ∧ appendV (⟨.struct [(0,25),(2,25),(4,2),(5,9),(6,3),(7,9),(8,47),(11,2),(12,4),(13,9),(14,38)],15,176,some [.int .i64 0, .int .i64 0, .int .i64 0, .int .i64 0, .int .i64 0, .str [], .int .i64 0, .str [], .int .i64 0, .str [], .str [], .int .i64 0, .bool false, .str [], .nils]⟩ : TI) ow1 nx1 y1 [opW o] = some (y2,ow2,nx2)) ∧ y2 = .slice 15 (m ++ [opW o]) false (some n) ∧ ow2 = (n,m.length + 1) :: ow ∧ nx2 = n + 1 := by
    intro m hm
    cases m with
    | nil => exact ⟨_,_,_,⟨_,_,_,rfl,rfl⟩,rfl,rfl,rfl⟩
    | cons a m =>
      refine ⟨_,_,_,⟨.slice 15 (a :: m) false (some n),(n,m.length + 1) :: ow,n + 1, ?_, ?_⟩,rfl,rfl,rfl⟩
      · simp [appendV]; simp at hm; omega
      · simp [appendV,hf]; simp at hm; omega
  obtain ⟨y2,ow2,nx2,⟨y1,ow1,nx1,h1,h2⟩,rfl,rfl,rfl⟩ := step2 l1 (by omega)
  cases l2 with
  | nil =>
    refine ⟨y1,ow1,nx1,_,_,_, .slice 15 (l1 ++ [opW o]) false (some n),(n,l1.length + 1) :: ow,n + 1,h1,h2, ?_,⟨n,rfl⟩,fun q hq => ?_,by omega⟩
    · simp [appendV]; simp at hl; omega
    · rcases List.mem_cons.1 hq with rfl | hq
      · exact Nat.lt_succ_self _
      · have := hn q hq; omega
  | cons b l2 =>
    refine ⟨y1,ow1,nx1,_,_,_, .slice 15 (l1 ++ opW o :: b :: l2) false (some n),(n,l1.length + 1 + (l2.length + 1)) :: ow,n + 1,h1,h2, ?_,⟨n,rfl⟩,fun q hq => ?_,by omega⟩
    · simp [appendV,hf]; simp at hl; omega
    · rcases List.mem_cons.1 hq with rfl | hq
      · exact Nat.lt_succ_self _
      · have := hn q hq; omega
theorem tw_take {p : OpS → Bool} {L : List OpS} {k : Nat} (h : (L.take k).all p = true) (he : k = L.length ∨ ∃ o, L[k]? = some o ∧ p o = false) : L.takeWhile p = L.take k ∧ L.dropWhile p = L.drop k := by
  induction L generalizing k with
  | nil => simp
  | cons a L ih =>
    cases k with
    | zero =>
      rcases he with he | ⟨o,ho,hp⟩
      · cases he
      · simp at ho; subst ho; simp [hp]
    | succ k =>
      simp only [List.take_succ_cons,List.all_cons,Bool.and_eq_true] at h
      have := ih h.2 (he.imp (fun h => by simpa using h) (fun ⟨o,ho,hp⟩ => ⟨o,by simpa using ho,hp⟩))
      simp [h.1,this.1,this.2]
theorem elems_one (o : OpS) (ex : Bool) (tok : Option Nat) : elemsV (⟨.struct [(0, 25), (2, 25), (4, 2), (5, 9), (6, 3), (7, 9), (8, 47), (11, 2), (12, 4), (13, 9), (14, 38)], 15, 176, some [.int .i64 0, .int .i64 0, .int .i64 0, .int .i64 0, .int .i64 0, .str [], .int .i64 0, .str [], .int .i64 0, .str [], .str [], .int .i64 0, .bool false, .str [], .nils]⟩ : TI) (.slice 15 [opW o] ex tok) = some [opW o] := rfl
theorem bs0 (s : St) : buildSliceV Try.prog s 52 0 [] = some (.slice 15 [] true none) := by simp [buildSliceV, ti52, ti49, evL]
theorem slice_lo (L : List V) (ex : Bool) (tok : Option Nat) (k : Nat) (hk : k ≤ L.length) : ∃ z, sliceV Try.prog 52 (.slice 15 L ex tok) none (some (.int .i64 k)) none = some z ∧ elemsV (⟨.struct [(0, 25), (2, 25), (4, 2), (5, 9), (6, 3), (7, 9), (8, 47), (11, 2), (12, 4), (13, 9), (14, 38)], 15, 176, some [.int .i64 0, .int .i64 0, .int .i64 0, .int .i64 0, .int .i64 0, .str [], .int .i64 0, .str [], .int .i64 0, .str [], .str [], .int .i64 0, .bool false, .str [], .nils]⟩ : TI) z = some (L.take k) := by
  refine ⟨.slice 15 ((L.take k).drop 0) (ex && k == L.length) none, ?_,by simp [elemsV]⟩
  simp [sliceV,ti52,ti49,boundV,hk]
theorem slice_hi (L : List V) (ex : Bool) (tok : Option Nat) (k : Nat) (hk : k ≤ L.length) : ∃ z, sliceV Try.prog 52 (.slice 15 L ex tok) (some (.int .i64 k)) none none = some z ∧ elemsV (⟨.struct [(0, 25), (2, 25), (4, 2), (5, 9), (6, 3), (7, 9), (8, 47), (11, 2), (12, 4), (13, 9), (14, 38)], 15, 176, some [.int .i64 0, .int .i64 0, .int .i64 0, .int .i64 0, .int .i64 0, .str [], .int .i64 0, .str [], .int .i64 0, .str [], .str [], .int .i64 0, .bool false, .str [], .nils]⟩ : TI) z = some (L.drop k) := by
  refine ⟨.slice 15 ((L.take L.length).drop k) (ex && L.length == L.length) none, ?_,by simp [elemsV]⟩
  simp [sliceV,ti52,ti49,boundV,hk]
theorem keep_tok (L : List V) (ex : Bool) (tok : Option Nat) : V.keep [] (.slice 15 L ex tok) = .slice 15 L ex none := by
  cases tok <;> simp [V.keep,V.keep1,V.keepC]
theorem c_punnet_punnetref26_Sorted (l : List OpS) (x : V) (hx : PS l x) (hl : l.length ≤ 400) : VC Try.prog 37 [x] [] (fun r _ => r = .slice 15 ((sortL l).map opW) (l.length == 0) none) := by
 refine VC_enter (nt := 51) (rs := [.tmp 2]) (ow := []) (m := 0) Try.func37 rfl (by rfl) rfl rfl (by simp) (by simp only [ownOf,List.flatMap_cons,List.flatMap_nil,hx.toks,List.append_nil]) rfl (fun n => ?_)
 simp only [zipT,Nat.zero_add]
 have hyl := True.intro
 have hia := True.intro
 have hik := True.intro
 have hap1 := True.intro
 have hap2 := True.intro
 have hap3 := True.intro
 have hs1 := True.intro
 have he1 := True.intro
 have hs2 := True.intro
 have he2 := True.intro
 have hwi := True.intro
 have hwk := True.intro
 have hbs := True.intro
 refine WC_seqR (fun N1 hN1 hD1 => ?_)
 simp only [sS,↓sT,Nat.reduceLT,Nat.reduceEqDiff,↓sO,↓WOps_g,sG,opV,loudV,cellsOf,strOp,evL,Nat.reduceAdd,Int.reduceBEq,Int.reduceBNe,TD.intK?,Option.isSome_some,Nat.reducePow,Nat.reduceLeDiff,elems_one,range_zero,List.all_nil,List.all_cons,Bool.and_self,op_len,range_one,op_clean,evO,Option.map_some,bs0,hx.len,hyl,hia,hik,hap1,hap2,hap3,hs1,he1,hs2,he2,hwi,hwk,hbs,load15,opCells,load_int,List.drop_zero,tag_load2,tag_load,op_cells,ti3,ti49,ti25]
 refine hN1 _ ?_; try clear hN1 hD1 N1
 refine WC_seqR (fun N2 hN2 hD2 => ?_)
 simp only [sS,↓sT,Nat.reduceLT,Nat.reduceEqDiff,↓sO,↓WOps_g,sG,opV,loudV,cellsOf,strOp,evL,Nat.reduceAdd,Int.reduceBEq,Int.reduceBNe,buildSliceV,ti52,TD.intK?,Option.isSome_some,Nat.reducePow,Nat.reduceLeDiff,elems_one,range_zero,List.all_nil,List.all_cons,Bool.and_self,op_len,range_one,op_clean,evO,Option.map_some,bs0,hx.len,hyl,hia,hik,hap1,hap2,hap3,hs1,he1,hs2,he2,hwi,hwk,hbs,load15,opCells,load_int,List.drop_zero,tag_load2,tag_load,op_cells,ti3,ti49,ti25]
 refine hN2 _ ?_; try clear hN2 hD2 N2
 refine WC_seqN (fun N3 hN3 hD3 => ?_)
 refine WC_seqR (fun N4 hN4 hD4 => ?_)
 simp only [sS,↓sT,Nat.reduceLT,Nat.reduceEqDiff,↓sO,↓WOps_g,sG,opV,loudV,cellsOf,strOp,evL,Nat.reduceAdd,Int.reduceBEq,Int.reduceBNe,TD.intK?,Option.isSome_some,Nat.reducePow,Nat.reduceLeDiff,elems_one,range_zero,List.all_nil,List.all_cons,Bool.and_self,op_len,range_one,op_clean,evO,Option.map_some,bs0,hx.len,hyl,hia,hik,hap1,hap2,hap3,hs1,he1,hs2,he2,hwi,hwk,hbs,load15,opCells,load_int,List.drop_zero,tag_load2,tag_load,op_cells,ti3,ti49,ti25]
 refine hN4 _ ?_; try clear hN4 hD4 N4
 refine WC_block ?_
 refine WC_loopG (σ := Nat) (fun t s => ∃ ps tok ow nx,s = ⟨mkS 51 ps, [],ow,nx⟩ ∧ Has ps [(0,x),(3, .slice 15 ((sortL (l.take t)).map opW) (t == 0) tok),(4, .int .i64 t)] ∧ t ≤ l.length ∧ ∀ q ∈ ow,q.1 < nx) (fun t => l.length - t) 0 ?_ (fun t s hI => ?_)
 · exact ⟨_,none, [],_,rfl,⟨rfl,rfl,rfl,trivial⟩,Nat.zero_le _,fun q hq => by cases hq⟩
 obtain ⟨ps,tok,ow,nx,rfl,hps,ht,how⟩ := hI
 refine WC_has hps ?_; clear hps ps
 obtain ⟨L,hL⟩ : ∃ L,sortL (l.take t) = L := ⟨_,rfl⟩
 have hLl : L.length = t := by rw [← hL,sort_len,List.length_take]; omega
 rw [hL]
 refine WC_seqN (fun N5 hN5 hD5 => ?_)
 refine WC_seqR (fun N6 hN6 hD6 => ?_)
 simp only [sS,↓sT,Nat.reduceLT,Nat.reduceEqDiff,↓sO,↓WOps_g,sG,opV,loudV,cellsOf,strOp,evL,Nat.reduceAdd,Int.reduceBEq,Int.reduceBNe,ti52,TD.intK?,Option.isSome_some,Nat.reducePow,Nat.reduceLeDiff,elems_one,range_zero,List.all_nil,List.all_cons,Bool.and_self,op_len,range_one,op_clean,evO,Option.map_some,bs0,hx.len,hyl,hia,hik,hap1,hap2,hap3,hs1,he1,hs2,he2,hwi,hwk,hbs,load15,opCells,load_int,List.drop_zero,tag_load2,tag_load,op_cells,ti3,ti49,ti25]
 refine hN6 _ ?_; try clear hN6 hD6 N6
 refine WC_condE ?_
 simp only [sS,↓sT,Nat.reduceLT,Nat.reduceEqDiff,↓stepC_bool]
 refine ⟨fun hb7 => ?_,fun hb7 => ?_⟩
 ·have ht2 : t < l.length := by have := of_decide_eq_true hb7; omega
  obtain ⟨o,ho⟩ : ∃ o,l[t]? = some o := ⟨_,List.getElem?_eq_getElem ht2⟩
  have hia := hx.ia ho
  have hwi : IntKind.i64.wrap ((t : Int) + 1) = (t : Int) + 1 := wrapI (by omega) (by omega)
  refine WC_skip ?_
  refine hN5 _ ?_; try clear hN5 hD5 N5
  refine WC_seqN (fun N8 hN8 hD8 => ?_)
  refine WC_block ?_
  refine WC_seqR (fun N9 hN9 hD9 => ?_)
  simp only [sS,↓sT,Nat.reduceLT,Nat.reduceEqDiff,↓sO,↓WOps_g,sG,opV,loudV,cellsOf,strOp,evL,Nat.reduceAdd,Int.reduceBEq,Int.reduceBNe,TD.intK?,Option.isSome_some,Nat.reducePow,Nat.reduceLeDiff,elems_one,range_zero,List.all_nil,List.all_cons,Bool.and_self,op_len,range_one,op_clean,evO,Option.map_some,bs0,hx.len,hyl,hia,hik,hap1,hap2,hap3,hs1,he1,hs2,he2,hwi,hwk,hbs,load15,opCells,load_int,List.drop_zero,tag_load2,tag_load,op_cells,ti3,ti49,ti25,hb7]
  refine hN9 _ ?_; try clear hN9 hD9 N9
  refine WC_seqN (fun N10 hN10 hD10 => ?_)
  refine WC_block ?_
  refine WC_loopG (σ := Nat) (fun k s => ∃ ps,s = ⟨mkS 51 ps, [],ow,nx⟩ ∧ Has ps [(0,x),(3, .slice 15 (L.map opW) (t == 0) tok),(4, .int .i64 t),(5, .int .i64 k)] ∧ k ≤ L.length ∧ (L.take k).all (fun p => lessB p.idR p.idN o.idR o.idN) = true) (fun k => L.length - k) 0 ?_ (fun k s hI => ?_)
  · exact ⟨_,rfl,⟨rfl,rfl,rfl,rfl,trivial⟩,Nat.zero_le _,rfl⟩
  obtain ⟨ps,rfl,hps,hk,hall⟩ := hI
  refine WC_has hps ?_; clear hps ps
  have hPX : PX L (.slice 15 (L.map opW) (t == 0) tok) := ⟨_,_,rfl⟩
  have hyl := hPX.len
  obtain ⟨p,hp⟩ : ∃ p,k < L.length → L[k]? = some p := ⟨L.getD k opZ,fun h => by simp [List.getD,List.getElem?_eq_getElem h]⟩
  have hik : decide ((k : Int) < (L.length : Int)) = true → indexAddrV Try.prog 52 (.slice 15 (L.map opW) (t == 0) tok) (.int .i64 k) = some (.rptr (opCells p)) := fun h => hPX.ia (hp (by have := of_decide_eq_true h; omega))
  obtain ⟨z1,hs1,he1⟩ := slice_lo (L.map opW) (t == 0) tok k (by rw [List.length_map]; exact hk)
  obtain ⟨z2,hs2,he2⟩ := slice_hi (L.map opW) (t == 0) tok k (by rw [List.length_map]; exact hk)
  obtain ⟨y1,ow1,nx1,y2,ow2,nx2,y3,ow3,nx3,hap1,hap2,hap3,⟨tok3,rfl⟩,how3,hnx3⟩ := app_three ((L.map opW).take k) ((L.map opW).drop k) o ow nx (by rw [List.length_take,List.length_drop,List.length_map]; unfold maxApp; omega) how
  have hwk : IntKind.i64.wrap ((k : Int) + 1) = (k : Int) + 1 := wrapI (by omega) (by omega)
  refine WC_seqN (fun N11 hN11 hD11 => ?_)
  refine WC_seqD mixed [] [0,0,0,0,0,0,0,0,0,0,0,0,0,0,0,0,0] (by decide +kernel) (fun N12 hN12 hD12 => ?_)
  simp only [sS,↓sT,Nat.reduceLT,Nat.reduceEqDiff,↓sD,↓D_g,memOk,lets0,lets1,List.not_mem_nil,not_false_eq_true,true_and,and_true,sG,opV,loudV,cellsOf,strOp,evL,Nat.reduceAdd,Int.reduceBEq,Int.reduceBNe,ti52,fS49,ti25,TD.intK?,Option.isSome_some,Nat.reducePow,Nat.reduceLeDiff,elems_one,range_zero,List.all_nil,List.all_cons,Bool.and_self,op_len,range_one,op_clean,evO,Option.map_some,bs0,hx.len,hyl,hia,hik,hap1,hap2,hap3,hs1,he1,hs2,he2,hwi,hwk,hbs,load15,opCells,load_int,List.drop_zero,tag_load2,tag_load,op_cells,ti3,ti49,hb7]
  refine stepB_T (fun hg12_4 => ?_) (fun hg12_4 => ?_)
  ·simp only [sS,↓sT,Nat.reduceLT,Nat.reduceEqDiff,↓sD,↓D_g,memOk,lets0,lets1,List.not_mem_nil,not_false_eq_true,true_and,and_true,sG,opV,loudV,cellsOf,strOp,evL,Nat.reduceAdd,Int.reduceBEq,Int.reduceBNe,ti52,fS49,ti25,TD.intK?,Option.isSome_some,Nat.reducePow,Nat.reduceLeDiff,elems_one,range_zero,List.all_nil,List.all_cons,Bool.and_self,op_len,range_one,op_clean,evO,Option.map_some,bs0,hx.len,hyl,hia,hik,hap1,hap2,hap3,hs1,he1,hs2,he2,hwi,hwk,hbs,load15,opCells,load_int,List.drop_zero,tag_load2,tag_load,op_cells,ti3,ti49,hb7,hg12_4]
   refine D_callP (c_punnet_punnetref17_Less p.idR p.idN o.idR o.idN) (by simp only [ev_func]) (by simp only [evL,sS,↓sT,Nat.reduceLT,Nat.reduceEqDiff]; rfl) (by first | rfl | (simp only [List.map,tag_bare]; done) | (simp only [List.map,tag_bare]; exact rfl)) (by first | rfl | simp [tag_noP]) (by first | rfl | simp [tag_noP]) rfl ?_
   simp only [sS,↓sT,Nat.reduceLT,Nat.reduceEqDiff,↓sD,↓D_g,memOk,lets0,lets1,List.not_mem_nil,not_false_eq_true,true_and,and_true,sG,opV,loudV,cellsOf,strOp,evL,Nat.reduceAdd,Int.reduceBEq,Int.reduceBNe,ti52,fS49,ti25,TD.intK?,Option.isSome_some,Nat.reducePow,Nat.reduceLeDiff,elems_one,range_zero,List.all_nil,List.all_cons,Bool.and_self,op_len,range_one,op_clean,evO,Option.map_some,bs0,hx.len,hyl,hia,hik,hap1,hap2,hap3,hs1,he1,hs2,he2,hwi,hwk,hbs,load15,opCells,load_int,List.drop_zero,tag_load2,tag_load,op_cells,ti3,ti49,hb7,hg12_4]
   refine hN12 _ ?_; try clear hN12 hD12 N12
   refine WC_condE ?_
   simp only [sS,↓sT,Nat.reduceLT,Nat.reduceEqDiff,↓stepC_bool,hb7,hg12_4,Int.reduceBEq,Int.reduceBNe,beq_self_eq_true,bne_self_eq_false]
   refine ⟨fun hb13 => ?_,fun hb13 => ?_⟩
   ·have hk2 : k < L.length := by have := of_decide_eq_true hg12_4; omega
    refine WC_skip ?_
    refine hN11 _ ?_; try clear hN11 hD11 N11
    refine WC_block ?_
    refine WC_regN (fun N14 hN14 => ?_)
    simp only [sS,↓sT,Nat.reduceLT,Nat.reduceEqDiff,↓sO,↓WOps_g,sG,opV,loudV,cellsOf,strOp,evL,Nat.reduceAdd,Int.reduceBEq,Int.reduceBNe,TD.intK?,Option.isSome_some,Nat.reducePow,Nat.reduceLeDiff,elems_one,range_zero,List.all_nil,List.all_cons,Bool.and_self,op_len,range_one,op_clean,evO,Option.map_some,bs0,hx.len,hyl,hia,hik,hap1,hap2,hap3,hs1,he1,hs2,he2,hwi,hwk,hbs,load15,opCells,load_int,List.drop_zero,tag_load2,tag_load,op_cells,ti3,ti49,ti25,hb7,hg12_4,hb13]
    refine hN14 _ ?_; try clear hN14 N14
    refine ⟨k + 1,⟨_,rfl,⟨rfl,rfl,rfl,rfl,trivial⟩,hk2, ?_⟩,by omega⟩
    rw [List.take_add_one,hp hk2,Option.toList_some,List.all_append,hall,Bool.true_and,List.all_cons,List.all_nil,Bool.and_true]
    exact hb13
   ·refine WC_exit ?_
    refine hN10 _ ?_; try clear hN10 hD10 N10
    refine WC_seqR (fun N15 hN15 hD15 => ?_)
    simp only [sS,↓sT,Nat.reduceLT,Nat.reduceEqDiff,↓sO,↓WOps_g,sG,opV,loudV,cellsOf,strOp,evL,Nat.reduceAdd,Int.reduceBEq,Int.reduceBNe,buildSliceV,ti52,TD.intK?,Option.isSome_some,Nat.reducePow,Nat.reduceLeDiff,elems_one,range_zero,List.all_nil,List.all_cons,Bool.and_self,op_len,range_one,op_clean,evO,Option.map_some,bs0,hx.len,hyl,hia,hik,hap1,hap2,hap3,hs1,he1,hs2,he2,hwi,hwk,hbs,load15,opCells,load_int,List.drop_zero,tag_load2,tag_load,op_cells,ti3,ti49,ti25,hb7,hg12_4,hb13]
    refine hN15 _ ?_; try clear hN15 hD15 N15
    refine WC_seqR (fun N16 hN16 hD16 => ?_)
    simp only [sS,↓sT,Nat.reduceLT,Nat.reduceEqDiff,↓sO,↓WOps_g,sG,opV,loudV,cellsOf,strOp,evL,Nat.reduceAdd,Int.reduceBEq,Int.reduceBNe,ti52,ti49,buildSliceV,TD.intK?,Option.isSome_some,Nat.reducePow,Nat.reduceLeDiff,elems_one,range_zero,List.all_nil,List.all_cons,Bool.and_self,op_len,range_one,op_clean,evO,Option.map_some,bs0,hx.len,hyl,hia,hik,hap1,hap2,hap3,hs1,he1,hs2,he2,hwi,hwk,hbs,load15,opCells,load_int,List.drop_zero,tag_load2,tag_load,op_cells,ti3,ti25,hb7,hg12_4,hb13]
    refine hN16 _ ?_; try clear hN16 hD16 N16
    refine WC_regN (fun N17 hN17 => ?_)
    simp only [sS,↓sT,Nat.reduceLT,Nat.reduceEqDiff,↓sO,↓WOps_g,sG,opV,loudV,cellsOf,strOp,evL,Nat.reduceAdd,Int.reduceBEq,Int.reduceBNe,ti52,TD.intK?,Option.isSome_some,Nat.reducePow,Nat.reduceLeDiff,elems_one,range_zero,List.all_nil,List.all_cons,Bool.and_self,op_len,range_one,op_clean,evO,Option.map_some,bs0,hx.len,hyl,hia,hik,hap1,hap2,hap3,hs1,he1,hs2,he2,hwi,hwk,hbs,load15,opCells,load_int,List.drop_zero,tag_load2,tag_load,op_cells,ti3,ti49,ti25,hb7,hg12_4,hb13]
    refine hN17 _ ?_; try clear hN17 N17
    refine hN8 _ ?_; try clear hN8 hD8 N8
    refine WC_regN (fun N18 hN18 => ?_)
    simp only [sS,↓sT,Nat.reduceLT,Nat.reduceEqDiff,↓sO,↓WOps_g,sG,opV,loudV,cellsOf,strOp,evL,Nat.reduceAdd,Int.reduceBEq,Int.reduceBNe,TD.intK?,Option.isSome_some,Nat.reducePow,Nat.reduceLeDiff,elems_one,range_zero,List.all_nil,List.all_cons,Bool.and_self,op_len,range_one,op_clean,evO,Option.map_some,bs0,hx.len,hyl,hia,hik,hap1,hap2,hap3,hs1,he1,hs2,he2,hwi,hwk,hbs,load15,opCells,load_int,List.drop_zero,tag_load2,tag_load,op_cells,ti3,ti49,ti25,hb7,hg12_4,hb13]
    refine hN18 _ ?_; try clear hN18 N18
    have htw := tw_take hall (by first | exact .inr ⟨p,hp (by have := of_decide_eq_true hg12_4; omega),hb13⟩ | (refine .inl ?_; have := of_decide_eq_false hg12_4; omega))
    refine ⟨t + 1,⟨_,some tok3,ow3,nx3,rfl,⟨rfl, ?_,rfl,trivial⟩,ht2,how3⟩,by omega⟩
    rw [take_at ho,sortL,List.foldl_append,← sortL,hL,List.foldl_cons,List.foldl_nil,insL,htw.1,htw.2,List.map_append,List.map_cons,List.map_take,List.map_drop,show (t + 1 == 0) = false from rfl]
    rfl
  ·simp only [sS,↓sT,Nat.reduceLT,Nat.reduceEqDiff,↓sD,↓D_g,memOk,lets0,lets1,List.not_mem_nil,not_false_eq_true,true_and,and_true,sG,opV,loudV,cellsOf,strOp,evL,Nat.reduceAdd,Int.reduceBEq,Int.reduceBNe,ti52,fS49,ti25,TD.intK?,Option.isSome_some,Nat.reducePow,Nat.reduceLeDiff,elems_one,range_zero,List.all_nil,List.all_cons,Bool.and_self,op_len,range_one,op_clean,evO,Option.map_some,bs0,hx.len,hyl,hia,hik,hap1,hap2,hap3,hs1,he1,hs2,he2,hwi,hwk,hbs,load15,opCells,load_int,List.drop_zero,tag_load2,tag_load,op_cells,ti3,ti49,hb7,hg12_4]
   refine hN12 _ ?_; try clear hN12 hD12 N12
   refine WC_condE ?_
   simp only [sS,↓sT,Nat.reduceLT,Nat.reduceEqDiff,↓stepC_bool,hb7,hg12_4,Int.reduceBEq,Int.reduceBNe,beq_self_eq_true,bne_self_eq_false]
   refine ⟨fun hb => (by cases hb),fun hb => ?_⟩
   refine WC_exit ?_
   refine hN10 _ ?_; try clear hN10 hD10 N10
   refine WC_seqR (fun N19 hN19 hD19 => ?_)
   simp only [sS,↓sT,Nat.reduceLT,Nat.reduceEqDiff,↓sO,↓WOps_g,sG,opV,loudV,cellsOf,strOp,evL,Nat.reduceAdd,Int.reduceBEq,Int.reduceBNe,buildSliceV,ti52,TD.intK?,Option.isSome_some,Nat.reducePow,Nat.reduceLeDiff,elems_one,range_zero,List.all_nil,List.all_cons,Bool.and_self,op_len,range_one,op_clean,evO,Option.map_some,bs0,hx.len,hyl,hia,hik,hap1,hap2,hap3,hs1,he1,hs2,he2,hwi,hwk,hbs,load15,opCells,load_int,List.drop_zero,tag_load2,tag_load,op_cells,ti3,ti49,ti25,hb7,hg12_4]
   refine hN19 _ ?_; try clear hN19 hD19 N19
   refine WC_seqR (fun N20 hN20 hD20 => ?_)
   simp only [sS,↓sT,Nat.reduceLT,Nat.reduceEqDiff,↓sO,↓WOps_g,sG,opV,loudV,cellsOf,strOp,evL,Nat.reduceAdd,Int.reduceBEq,Int.reduceBNe,ti52,ti49,buildSliceV,TD.intK?,Option.isSome_some,Nat.reducePow,Nat.reduceLeDiff,elems_one,range_zero,List.all_nil,List.all_cons,Bool.and_self,op_len,range_one,op_clean,evO,Option.map_some,bs0,hx.len,hyl,hia,hik,hap1,hap2,hap3,hs1,he1,hs2,he2,hwi,hwk,hbs,load15,opCells,load_int,List.drop_zero,tag_load2,tag_load,op_cells,ti3,ti25,hb7,hg12_4]
   refine hN20 _ ?_; try clear hN20 hD20 N20
   refine WC_regN (fun N21 hN21 => ?_)
   simp only [sS,↓sT,Nat.reduceLT,Nat.reduceEqDiff,↓sO,↓WOps_g,sG,opV,loudV,cellsOf,strOp,evL,Nat.reduceAdd,Int.reduceBEq,Int.reduceBNe,ti52,TD.intK?,Option.isSome_some,Nat.reducePow,Nat.reduceLeDiff,elems_one,range_zero,List.all_nil,List.all_cons,Bool.and_self,op_len,range_one,op_clean,evO,Option.map_some,bs0,hx.len,hyl,hia,hik,hap1,hap2,hap3,hs1,he1,hs2,he2,hwi,hwk,hbs,load15,opCells,load_int,List.drop_zero,tag_load2,tag_load,op_cells,ti3,ti49,ti25,hb7,hg12_4]
   refine hN21 _ ?_; try clear hN21 N21
   refine hN8 _ ?_; try clear hN8 hD8 N8
   refine WC_regN (fun N22 hN22 => ?_)
   simp only [sS,↓sT,Nat.reduceLT,Nat.reduceEqDiff,↓sO,↓WOps_g,sG,opV,loudV,cellsOf,strOp,evL,Nat.reduceAdd,Int.reduceBEq,Int.reduceBNe,TD.intK?,Option.isSome_some,Nat.reducePow,Nat.reduceLeDiff,elems_one,range_zero,List.all_nil,List.all_cons,Bool.and_self,op_len,range_one,op_clean,evO,Option.map_some,bs0,hx.len,hyl,hia,hik,hap1,hap2,hap3,hs1,he1,hs2,he2,hwi,hwk,hbs,load15,opCells,load_int,List.drop_zero,tag_load2,tag_load,op_cells,ti3,ti49,ti25,hb7,hg12_4]
   refine hN22 _ ?_; try clear hN22 N22
   have htw := tw_take hall (by first | exact .inr ⟨p,hp (by have := of_decide_eq_true hg12_4; omega),hb13⟩ | (refine .inl ?_; have := of_decide_eq_false hg12_4; omega))
   refine ⟨t + 1,⟨_,some tok3,ow3,nx3,rfl,⟨rfl, ?_,rfl,trivial⟩,ht2,how3⟩,by omega⟩
   rw [take_at ho,sortL,List.foldl_append,← sortL,hL,List.foldl_cons,List.foldl_nil,insL,htw.1,htw.2,List.map_append,List.map_cons,List.map_take,List.map_drop,show (t + 1 == 0) = false from rfl]
   rfl
 ·refine WC_exit ?_
  refine hN3 _ ?_; try clear hN3 hD3 N3
  refine WC_seqR (fun N23 hN23 hD23 => ?_)
  simp only [sS,↓sT,Nat.reduceLT,Nat.reduceEqDiff,↓sO,↓WOps_g,sG,opV,loudV,cellsOf,strOp,evL,Nat.reduceAdd,Int.reduceBEq,Int.reduceBNe,TD.intK?,Option.isSome_some,Nat.reducePow,Nat.reduceLeDiff,elems_one,range_zero,List.all_nil,List.all_cons,Bool.and_self,op_len,range_one,op_clean,evO,Option.map_some,bs0,hx.len,hyl,hia,hik,hap1,hap2,hap3,hs1,he1,hs2,he2,hwi,hwk,hbs,load15,opCells,load_int,List.drop_zero,tag_load2,tag_load,op_cells,ti3,ti49,ti25,hb7]
  refine hN23 _ ?_; try clear hN23 hD23 N23
  refine WC_sub (ow' := []) (fun q hq => by cases hq) ?_
  refine WC_ret ?_; (try simp only [Exit.after,Exit.out]); refine Kend_ret (by first | (simp only [resOf,resL,resV,mkS_get,slots_get,cellsOf,sS,↓sT,Nat.reduceLT,Nat.reduceEqDiff]; done) | (simp only [resOf,resL,resV,mkS_get,slots_get,cellsOf,sS,↓sT,Nat.reduceLT,Nat.reduceEqDiff]; rfl)) rfl ?_
  clear hN5 hD5 N5
  have ht2 : t = l.length := by have := of_decide_eq_false hb7; omega
  rw [keep_tok,← hL,ht2,List.take_length]
end Go.PV
/- punnetref26: Put. -/
namespace Go.PV
open Go.Proofs
set_option linter.unusedVariables false
set_option linter.unusedSimpArgs false
set_option maxRecDepth 10000
set_option maxHeartbeats 1000000

/-- the reference's Put: the list and the code -/
def refPut (l : List OpS) (o : OpS) : List OpS × Int :=
  if rightR o = false then (l,5) else
  if 0 ≤ atL l o.idR o.idN then (l,if sameO (l.getD (atL l o.idR o.idN).toNat opZ) o = true then 7 else 15) else
  if 1 < o.idN ∧ atL l o.idR (o.idN - 1) < 0 then (l,17) else
  if 399 < l.length then (l,9) else (l ++ [o],0)
def putVL (l : List OpS) (x : V) (o : OpS) : V := if (refPut l o).2 = 0 then .slice 15 ((l ++ [o]).map opW) false none else x
theorem PS.elems {l : List OpS} {c : V} (h : PS l c) : elemsV (⟨.struct [(0, 25), (2, 25), (4, 2), (5, 9), (6, 3), (7, 9), (8, 47), (11, 2), (12, 4), (13, 9), (14, 38)], 15, 176, some [.int .i64 0, .int .i64 0, .int .i64 0, .int .i64 0, .int .i64 0, .str [], .int .i64 0, .str [], .int .i64 0, .str [], .str [], .int .i64 0, .bool false, .str [], .nils]⟩ : TI) c = some (l.map opW) := by
  rcases h with ⟨rfl,rfl⟩ | ⟨ex,rfl⟩
  · rfl
  · simp [elemsV]
theorem PS.okT {l : List OpS} {c : V} (h : PS l c) (m : Nat) (n : Int) : okV m (.tup [c, .int .i64 n]) = true := by
  rcases h with ⟨rfl,rfl⟩ | ⟨ex,rfl⟩ <;> rfl
theorem PS.keepT {l : List OpS} {c : V} (h : PS l c) (ow : List (Nat × Nat)) (n : Int) : V.keep ow (.tup [c, .int .i64 n]) = .tup [c, .int .i64 n] := by
  rcases h with ⟨rfl,rfl⟩ | ⟨ex,rfl⟩ <;> rfl
/-- a list, copied and made longer by one -/
theorem app_two (l : List OpS) (o : OpS) (n : Nat) (hl : l.length ≤ 400) : ∃ y1 ow1 nx1 y2 ow2 nx2, appendV (⟨.struct [(0, 25), (2, 25), (4, 2), (5, 9), (6, 3), (7, 9), (8, 47), (11, 2), (12, 4), (13, 9), (14, 38)], 15, 176, some [.int .i64 0, .int .i64 0, .int .i64 0, .int .i64 0, .int .i64 0, .str [], .int .i64 0, .str [], .int .i64 0, .str [], .str [], .int .i64 0, .bool false, .str [], .nils]⟩ : TI) [] n (.slice 15 [] true none) (l.map opW) = some (y1, ow1, nx1) ∧
    appendV (⟨.struct [(0,25),(2,25),(4,2),(5,9),(6,3),(7,9),(8,47),(11,2),(12,4),(13,9),(14,38)],15,176,some [.int .i64 0, .int .i64 0, .int .i64 0, .int .i64 0, .int .i64 0, .str [], .int .i64 0, .str [], .int .i64 0, .str [], .str [], .int .i64 0, .bool false, .str [], .nils]⟩ : TI) ow1 nx1 y1 [opW o] = some (y2,ow2,nx2) ∧ (∀ m c,okV m (.tup [y2, .int .i64 c]) = true) ∧ ∀ c,V.keep [] (.tup [y2, .int .i64 c]) = .tup [.slice 15 ((l ++ [o]).map opW) false none, .int .i64 c] := by
  cases l with
  | nil =>
    refine ⟨_,_,_,_,_,_,rfl,rfl,fun _ _ => rfl,fun _ => rfl⟩
  | cons p l =>
    have h1 : l.length + 1 ≤ maxApp := by simp at hl; unfold maxApp; omega
    have h2 : l.length + 1 + 1 ≤ maxApp := by simp at hl; unfold maxApp; omega
    refine ⟨.slice 15 ((p :: l).map opW) false (some n), [(n,l.length + 1)],n + 1, .slice 15 ((p :: l).map opW ++ [opW o]) false (some n), [(n,l.length + 1 + 1)],n + 1, ?_, ?_,fun _ _ => rfl,fun _ => ?_⟩
    · simp [appendV,h1]
    · simp [appendV,h2]
    · simp [V.keep,V.keep1,V.keepC]
theorem c_punnet_punnetref26_Put (l : List OpS) (x : V) (hx : PS l x) (o : OpS) (hl : l.length ≤ 400) (hd : ∀ p ∈ l, p.dropsL.length ≤ 4611686018427387904) : VC Try.prog 54 [x, opW o] [] (fun r _ => r = .tup [putVL l x o, .int .i64 (refPut l o).2]) := by
 refine VC_enter (nt := 59) (rs := [.tmp 4, .tmp 5]) (ow := []) (m := 0) Try.func54 rfl (by rfl) rfl rfl (by simp) (by simp only [ownOf,List.flatMap_cons,List.flatMap_nil,hx.toks,op_toks,List.append_nil]) rfl (fun n => ?_)
 simp only [zipT,Nat.zero_add]
 obtain ⟨y1,ow1,nx1,y2,ow2,nx2,hap1,hap2,hok,hke⟩ := app_two l o n hl
 obtain ⟨p,hp⟩ : ∃ p,l.getD (atL l o.idR o.idN).toNat opZ = p := ⟨_,rfl⟩
 have hwn : (!rightR o) = false → IntKind.i64.wrap (o.idN - 1) = o.idN - 1 := fun h => by
   have h1 : tagB o.idR o.idN = true := by
     cases ht : tagB o.idR o.idN with
     | true => rfl
     | false => simp [rightR,ht] at h
   have := tagB_iff.1 h1
   exact wrapI (by omega) (by omega)
 have hpl : 0 ≤ atL l o.idR o.idN → l[(atL l o.idR o.idN).toNat]? = some p := fun h => by
   obtain ⟨q,hq,_⟩ := atL_get h
   rw [← hp,List.getD,hq]; rfl
 have hia : decide (0 ≤ atL l o.idR o.idN) = true → indexAddrV Try.prog 52 x (.int .i64 (atL l o.idR o.idN)) = some (.rptr (opCells p)) := fun h => by
   have h := of_decide_eq_true h
   have := hx.ia (hpl h)
   rwa [show (((atL l o.idR o.idN).toNat : Nat) : Int) = atL l o.idR o.idN from by omega] at this
 have hdp : decide (0 ≤ atL l o.idR o.idN) = true → p.dropsL.length ≤ 4611686018427387904 := fun h => hd p (List.mem_of_getElem? (hpl (of_decide_eq_true h)))
 have hbs := True.intro
 refine WC_seqR (fun N1 hN1 hD1 => ?_)
 simp only [sS,↓sT,Nat.reduceLT,Nat.reduceEqDiff,↓sO,↓WOps_g,sG,opV,loudV,cellsOf,strOp,evL,Nat.reduceAdd,Int.reduceBEq,Int.reduceBNe,bs0,TD.intK?,Option.isSome_some,Nat.reducePow,Nat.reduceLeDiff,range_zero,op_len,range_one,op_clean,hx.len,hx.elems,hia,hap1,hap2,hwn,hbs,op_cells,op_isC,opCells,List.all_cons,List.all_nil,icell_int,icell_str,icell_bool,dropsW_isC,Bool.and_self,load15,load_int,List.drop_zero,tag_load2,tag_load,tag_fold,gt_iff_lt,ge_iff_le,elems_one,ti3,ti49,ti25]
 refine hN1 _ ?_; try clear hN1 hD1 N1
 refine WC_seqN (fun N2 hN2 hD2 => ?_)
 refine WC_seqR (fun N3 hN3 hD3 => ?_)
 simp only [sS,↓sT,Nat.reduceLT,Nat.reduceEqDiff,↓sO,↓WOps_g,sG,opV,loudV,cellsOf,strOp,evL,Nat.reduceAdd,Int.reduceBEq,Int.reduceBNe,ti49,bs0,TD.intK?,Option.isSome_some,Nat.reducePow,Nat.reduceLeDiff,range_zero,op_len,range_one,op_clean,hx.len,hx.elems,hia,hap1,hap2,hwn,hbs,op_cells,op_isC,opCells,List.all_cons,List.all_nil,icell_int,icell_str,icell_bool,dropsW_isC,Bool.and_self,load15,load_int,List.drop_zero,tag_load2,tag_load,tag_fold,gt_iff_lt,ge_iff_le,elems_one,ti3,ti25]
 refine WOps_callP (c_punnet_punnetref20_Right o) (by simp only [ev_func]) (by simp only [evL,sS,↓sT,Nat.reduceLT,Nat.reduceEqDiff]; rfl) (by first | rfl | (simp only [List.map,op_bare,tag_bare,hx.bare]; done) | (simp only [List.map,op_bare,tag_bare,hx.bare]; exact rfl)) (by first | rfl | simp [op_noP,tag_noP,hx.noP]) (by first | rfl | simp [op_noP,tag_noP,hx.noP]) (by first | exact op_bare _ | rfl) ?_
 simp only [sS,↓sT,Nat.reduceLT,Nat.reduceEqDiff,↓sO,↓WOps_g,sG,opV,loudV,cellsOf,strOp,evL,Nat.reduceAdd,Int.reduceBEq,Int.reduceBNe,ti49,bs0,TD.intK?,Option.isSome_some,Nat.reducePow,Nat.reduceLeDiff,range_zero,op_len,range_one,op_clean,hx.len,hx.elems,hia,hap1,hap2,hwn,hbs,op_cells,op_isC,opCells,List.all_cons,List.all_nil,icell_int,icell_str,icell_bool,dropsW_isC,Bool.and_self,load15,load_int,List.drop_zero,tag_load2,tag_load,tag_fold,gt_iff_lt,ge_iff_le,elems_one,ti3,ti25]
 refine hN3 _ ?_; try clear hN3 hD3 N3
 refine WC_condE ?_
 simp only [sS,↓sT,Nat.reduceLT,Nat.reduceEqDiff,↓stepC_bool]
 refine ⟨fun hb4 => ?_,fun hb4 => ?_⟩
 ·refine WC_seqR (fun N5 hN5 hD5 => ?_)
  simp only [sS,↓sT,Nat.reduceLT,Nat.reduceEqDiff,↓sO,↓WOps_g,sG,opV,loudV,cellsOf,strOp,evL,Nat.reduceAdd,Int.reduceBEq,Int.reduceBNe,bs0,TD.intK?,Option.isSome_some,Nat.reducePow,Nat.reduceLeDiff,range_zero,op_len,range_one,op_clean,hx.len,hx.elems,hia,hap1,hap2,hwn,hbs,op_cells,op_isC,opCells,List.all_cons,List.all_nil,icell_int,icell_str,icell_bool,dropsW_isC,Bool.and_self,load15,load_int,List.drop_zero,tag_load2,tag_load,tag_fold,gt_iff_lt,ge_iff_le,elems_one,ti3,ti49,ti25,hb4]
  refine hN5 _ ?_; try clear hN5 hD5 N5
  refine WC_sub (ow' := []) (fun q hq => by cases hq) ?_
  refine WC_ret ?_; (try simp only [Exit.after,Exit.out]); refine Kend_ret (by first | (simp only [resOf,resL,resV,mkS_get,slots_get,cellsOf,sS,↓sT,Nat.reduceLT,Nat.reduceEqDiff]; done) | (simp only [resOf,resL,resV,mkS_get,slots_get,cellsOf,sS,↓sT,Nat.reduceLT,Nat.reduceEqDiff]; rfl)) (by first | exact hx.okT _ _ | exact hok _ _) ?_
  clear hN2 hD2 N2
  first
  | (suffices h' : refPut l o = (l,5) by (rw [hx.keepT,putVL,h']; rfl)
     clear hap1 hap2 hok hke hx hia hdp hpl hwn hbs hd
     rw [refPut]; simp_all; done)
  | (suffices h' : refPut l o = (l,7) by (rw [hx.keepT,putVL,h']; rfl)
     clear hap1 hap2 hok hke hx hia hdp hpl hwn hbs hd
     rw [refPut]; simp_all; done)
  | (suffices h' : refPut l o = (l,15) by (rw [hx.keepT,putVL,h']; rfl)
     clear hap1 hap2 hok hke hx hia hdp hpl hwn hbs hd
     rw [refPut]; simp_all; done)
  | (suffices h' : refPut l o = (l,17) by (rw [hx.keepT,putVL,h']; rfl)
     rw [refPut,if_neg (by rw [Bool.not_eq_false'] at hb4; simp [hb4]),if_neg (by have := of_decide_eq_false hg8_2; omega),if_pos ⟨of_decide_eq_true hg17_4,of_decide_eq_true hb18⟩]; done)
  | (suffices h' : refPut l o = (l,9) by (rw [hx.keepT,putVL,h']; rfl)
     rw [refPut,if_neg (by rw [Bool.not_eq_false'] at hb4; simp [hb4]),if_neg (by have := of_decide_eq_false hg8_2; omega),if_neg (by first | (have := of_decide_eq_false hb18; omega) | (have := of_decide_eq_false hg17_4; omega)),if_pos (by first | (have := of_decide_eq_true hb22; omega) | (have := of_decide_eq_true hb28; omega))]; done)
  | (suffices h' : refPut l o = (l ++ [o],0) by (rw [hke,putVL,h']; rfl)
     rw [refPut,if_neg (by rw [Bool.not_eq_false'] at hb4; simp [hb4]),if_neg (by have := of_decide_eq_false hg8_2; omega),if_neg (by first | (have := of_decide_eq_false hb18; omega) | (have := of_decide_eq_false hg17_4; omega)),if_neg (by first | (have := of_decide_eq_false hb22; omega) | (have := of_decide_eq_false hb28; omega))]; done)
 ·refine WC_skip ?_
  refine hN2 _ ?_; try clear hN2 hD2 N2
  refine WC_seqR (fun N6 hN6 hD6 => ?_)
  simp only [sS,↓sT,Nat.reduceLT,Nat.reduceEqDiff,↓sO,↓WOps_g,sG,opV,loudV,cellsOf,strOp,evL,Nat.reduceAdd,Int.reduceBEq,Int.reduceBNe,fS49,ti25,bs0,TD.intK?,Option.isSome_some,Nat.reducePow,Nat.reduceLeDiff,range_zero,op_len,range_one,op_clean,hx.len,hx.elems,hia,hap1,hap2,hwn,hbs,op_cells,op_isC,opCells,List.all_cons,List.all_nil,icell_int,icell_str,icell_bool,dropsW_isC,Bool.and_self,load15,load_int,List.drop_zero,tag_load2,tag_load,tag_fold,gt_iff_lt,ge_iff_le,elems_one,ti3,ti49,hb4]
  refine WOps_callP (c_punnet_punnetref26_At l x hx o.idR o.idN (by unfold maxLen; omega)) (by simp only [ev_func]) (by simp only [evL,sS,↓sT,Nat.reduceLT,Nat.reduceEqDiff]; rfl) (by first | rfl | (simp only [List.map,op_bare,tag_bare,hx.bare]; done) | (simp only [List.map,op_bare,tag_bare,hx.bare]; exact rfl)) (by first | rfl | simp [op_noP,tag_noP,hx.noP]) (by first | rfl | simp [op_noP,tag_noP,hx.noP]) (by first | exact op_bare _ | rfl) ?_
  simp only [sS,↓sT,Nat.reduceLT,Nat.reduceEqDiff,↓sO,↓WOps_g,sG,opV,loudV,cellsOf,strOp,evL,Nat.reduceAdd,Int.reduceBEq,Int.reduceBNe,fS49,ti25,bs0,TD.intK?,Option.isSome_some,Nat.reducePow,Nat.reduceLeDiff,range_zero,op_len,range_one,op_clean,hx.len,hx.elems,hia,hap1,hap2,hwn,hbs,op_cells,op_isC,opCells,List.all_cons,List.all_nil,icell_int,icell_str,icell_bool,dropsW_isC,Bool.and_self,load15,load_int,List.drop_zero,tag_load2,tag_load,tag_fold,gt_iff_lt,ge_iff_le,elems_one,ti3,ti49,hb4]
  refine hN6 _ ?_; try clear hN6 hD6 N6
  refine WC_seqN (fun N7 hN7 hD7 => ?_)
  refine WC_seqD mixed [] [0,0,0,0,0,0,0,0,0,0] (by decide +kernel) (fun N8 hN8 hD8 => ?_)
  simp only [sS,↓sT,Nat.reduceLT,Nat.reduceEqDiff,↓sD,↓D_g,memOk,lets0,lets1,List.not_mem_nil,not_false_eq_true,true_and,and_true,sG,opV,loudV,cellsOf,strOp,evL,Nat.reduceAdd,Int.reduceBEq,Int.reduceBNe,ti52,ti49,bs0,TD.intK?,Option.isSome_some,Nat.reducePow,Nat.reduceLeDiff,range_zero,op_len,range_one,op_clean,hx.len,hx.elems,hia,hap1,hap2,hwn,hbs,op_cells,op_isC,opCells,List.all_cons,List.all_nil,icell_int,icell_str,icell_bool,dropsW_isC,Bool.and_self,load15,load_int,List.drop_zero,tag_load2,tag_load,tag_fold,gt_iff_lt,ge_iff_le,elems_one,ti3,ti25,hb4]
  refine stepB_T (fun hg8_2 => ?_) (fun hg8_2 => ?_)
  ·simp only [sS,↓sT,Nat.reduceLT,Nat.reduceEqDiff,↓sD,↓D_g,memOk,lets0,lets1,List.not_mem_nil,not_false_eq_true,true_and,and_true,sG,opV,loudV,cellsOf,strOp,evL,Nat.reduceAdd,Int.reduceBEq,Int.reduceBNe,ti52,ti49,bs0,TD.intK?,Option.isSome_some,Nat.reducePow,Nat.reduceLeDiff,range_zero,op_len,range_one,op_clean,hx.len,hx.elems,hia,hap1,hap2,hwn,hbs,op_cells,op_isC,opCells,List.all_cons,List.all_nil,icell_int,icell_str,icell_bool,dropsW_isC,Bool.and_self,load15,load_int,List.drop_zero,tag_load2,tag_load,tag_fold,gt_iff_lt,ge_iff_le,elems_one,ti3,ti25,hb4,hg8_2]
   refine D_callP (c_punnet_punnetref20_Same p o (hdp hg8_2)) (by simp only [ev_func]) (by simp only [evL,sS,↓sT,Nat.reduceLT,Nat.reduceEqDiff]; rfl) (by first | rfl | (simp only [List.map,op_bare,tag_bare,hx.bare]; done) | (simp only [List.map,op_bare,tag_bare,hx.bare]; exact rfl)) (by first | rfl | simp [op_noP,tag_noP,hx.noP]) (by first | rfl | simp [op_noP,tag_noP,hx.noP]) (by first | exact op_bare _ | rfl) ?_
   simp only [sS,↓sT,Nat.reduceLT,Nat.reduceEqDiff,↓sD,↓D_g,memOk,lets0,lets1,List.not_mem_nil,not_false_eq_true,true_and,and_true,sG,opV,loudV,cellsOf,strOp,evL,Nat.reduceAdd,Int.reduceBEq,Int.reduceBNe,ti52,ti49,bs0,TD.intK?,Option.isSome_some,Nat.reducePow,Nat.reduceLeDiff,range_zero,op_len,range_one,op_clean,hx.len,hx.elems,hia,hap1,hap2,hwn,hbs,op_cells,op_isC,opCells,List.all_cons,List.all_nil,icell_int,icell_str,icell_bool,dropsW_isC,Bool.and_self,load15,load_int,List.drop_zero,tag_load2,tag_load,tag_fold,gt_iff_lt,ge_iff_le,elems_one,ti3,ti25,hb4,hg8_2]
   refine hN8 _ ?_; try clear hN8 hD8 N8
   refine WC_condE ?_
   simp only [sS,↓sT,Nat.reduceLT,Nat.reduceEqDiff,↓stepC_bool,hb4,hg8_2,Int.reduceBEq,Int.reduceBNe,beq_self_eq_true,bne_self_eq_false]
   refine ⟨fun hb9 => ?_,fun hb9 => ?_⟩
   ·refine WC_seqR (fun N10 hN10 hD10 => ?_)
    simp only [sS,↓sT,Nat.reduceLT,Nat.reduceEqDiff,↓sO,↓WOps_g,sG,opV,loudV,cellsOf,strOp,evL,Nat.reduceAdd,Int.reduceBEq,Int.reduceBNe,bs0,TD.intK?,Option.isSome_some,Nat.reducePow,Nat.reduceLeDiff,range_zero,op_len,range_one,op_clean,hx.len,hx.elems,hia,hap1,hap2,hwn,hbs,op_cells,op_isC,opCells,List.all_cons,List.all_nil,icell_int,icell_str,icell_bool,dropsW_isC,Bool.and_self,load15,load_int,List.drop_zero,tag_load2,tag_load,tag_fold,gt_iff_lt,ge_iff_le,elems_one,ti3,ti49,ti25,hb4,hg8_2,hb9]
    refine hN10 _ ?_; try clear hN10 hD10 N10
    refine WC_sub (ow' := []) (fun q hq => by cases hq) ?_
    refine WC_ret ?_; (try simp only [Exit.after,Exit.out]); refine Kend_ret (by first | (simp only [resOf,resL,resV,mkS_get,slots_get,cellsOf,sS,↓sT,Nat.reduceLT,Nat.reduceEqDiff]; done) | (simp only [resOf,resL,resV,mkS_get,slots_get,cellsOf,sS,↓sT,Nat.reduceLT,Nat.reduceEqDiff]; rfl)) (by first | exact hx.okT _ _ | exact hok _ _) ?_
    clear hN7 hD7 N7
    first
    | (suffices h' : refPut l o = (l,5) by (rw [hx.keepT,putVL,h']; rfl)
       clear hap1 hap2 hok hke hx hia hdp hpl hwn hbs hd
       rw [refPut]; simp_all; done)
    | (suffices h' : refPut l o = (l,7) by (rw [hx.keepT,putVL,h']; rfl)
       clear hap1 hap2 hok hke hx hia hdp hpl hwn hbs hd
       rw [refPut]; simp_all; done)
    | (suffices h' : refPut l o = (l,15) by (rw [hx.keepT,putVL,h']; rfl)
       clear hap1 hap2 hok hke hx hia hdp hpl hwn hbs hd
       rw [refPut]; simp_all; done)
    | (suffices h' : refPut l o = (l,17) by (rw [hx.keepT,putVL,h']; rfl)
       rw [refPut,if_neg (by rw [Bool.not_eq_false'] at hb4; simp [hb4]),if_neg (by have := of_decide_eq_false hg8_2; omega),if_pos ⟨of_decide_eq_true hg17_4,of_decide_eq_true hb18⟩]; done)
    | (suffices h' : refPut l o = (l,9) by (rw [hx.keepT,putVL,h']; rfl)
       rw [refPut,if_neg (by rw [Bool.not_eq_false'] at hb4; simp [hb4]),if_neg (by have := of_decide_eq_false hg8_2; omega),if_neg (by first | (have := of_decide_eq_false hb18; omega) | (have := of_decide_eq_false hg17_4; omega)),if_pos (by first | (have := of_decide_eq_true hb22; omega) | (have := of_decide_eq_true hb28; omega))]; done)
    | (suffices h' : refPut l o = (l ++ [o],0) by (rw [hke,putVL,h']; rfl)
       rw [refPut,if_neg (by rw [Bool.not_eq_false'] at hb4; simp [hb4]),if_neg (by have := of_decide_eq_false hg8_2; omega),if_neg (by first | (have := of_decide_eq_false hb18; omega) | (have := of_decide_eq_false hg17_4; omega)),if_neg (by first | (have := of_decide_eq_false hb22; omega) | (have := of_decide_eq_false hb28; omega))]; done)
   ·refine WC_skip ?_
    refine hN7 _ ?_; try clear hN7 hD7 N7
    refine WC_seqN (fun N11 hN11 hD11 => ?_)
    refine WC_seqR (fun N12 hN12 hD12 => ?_)
    simp only [sS,↓sT,Nat.reduceLT,Nat.reduceEqDiff,↓sO,↓WOps_g,sG,opV,loudV,cellsOf,strOp,evL,Nat.reduceAdd,Int.reduceBEq,Int.reduceBNe,bs0,TD.intK?,Option.isSome_some,Nat.reducePow,Nat.reduceLeDiff,range_zero,op_len,range_one,op_clean,hx.len,hx.elems,hia,hap1,hap2,hwn,hbs,op_cells,op_isC,opCells,List.all_cons,List.all_nil,icell_int,icell_str,icell_bool,dropsW_isC,Bool.and_self,load15,load_int,List.drop_zero,tag_load2,tag_load,tag_fold,gt_iff_lt,ge_iff_le,elems_one,ti3,ti49,ti25,hb4,hg8_2,hb9]
    refine hN12 _ ?_; try clear hN12 hD12 N12
    refine WC_condE ?_
    simp only [sS,↓sT,Nat.reduceLT,Nat.reduceEqDiff,↓stepC_bool,hb4,hg8_2,hb9,Int.reduceBEq,Int.reduceBNe,beq_self_eq_true,bne_self_eq_false]
    refine ⟨fun hb => ?_,fun hb => (by cases hb)⟩
    refine WC_seqR (fun N13 hN13 hD13 => ?_)
    simp only [sS,↓sT,Nat.reduceLT,Nat.reduceEqDiff,↓sO,↓WOps_g,sG,opV,loudV,cellsOf,strOp,evL,Nat.reduceAdd,Int.reduceBEq,Int.reduceBNe,bs0,TD.intK?,Option.isSome_some,Nat.reducePow,Nat.reduceLeDiff,range_zero,op_len,range_one,op_clean,hx.len,hx.elems,hia,hap1,hap2,hwn,hbs,op_cells,op_isC,opCells,List.all_cons,List.all_nil,icell_int,icell_str,icell_bool,dropsW_isC,Bool.and_self,load15,load_int,List.drop_zero,tag_load2,tag_load,tag_fold,gt_iff_lt,ge_iff_le,elems_one,ti3,ti49,ti25,hb4,hg8_2,hb9]
    refine hN13 _ ?_; try clear hN13 hD13 N13
    refine WC_sub (ow' := []) (fun q hq => by cases hq) ?_
    refine WC_ret ?_; (try simp only [Exit.after,Exit.out]); refine Kend_ret (by first | (simp only [resOf,resL,resV,mkS_get,slots_get,cellsOf,sS,↓sT,Nat.reduceLT,Nat.reduceEqDiff]; done) | (simp only [resOf,resL,resV,mkS_get,slots_get,cellsOf,sS,↓sT,Nat.reduceLT,Nat.reduceEqDiff]; rfl)) (by first | exact hx.okT _ _ | exact hok _ _) ?_
    clear hN11 hD11 N11
    first
    | (suffices h' : refPut l o = (l,5) by (rw [hx.keepT,putVL,h']; rfl)
       clear hap1 hap2 hok hke hx hia hdp hpl hwn hbs hd
       rw [refPut]; simp_all; done)
    | (suffices h' : refPut l o = (l,7) by (rw [hx.keepT,putVL,h']; rfl)
       clear hap1 hap2 hok hke hx hia hdp hpl hwn hbs hd
       rw [refPut]; simp_all; done)
    | (suffices h' : refPut l o = (l,15) by (rw [hx.keepT,putVL,h']; rfl)
       clear hap1 hap2 hok hke hx hia hdp hpl hwn hbs hd
       rw [refPut]; simp_all; done)
    | (suffices h' : refPut l o = (l,17) by (rw [hx.keepT,putVL,h']; rfl)
       rw [refPut,if_neg (by rw [Bool.not_eq_false'] at hb4; simp [hb4]),if_neg (by have := of_decide_eq_false hg8_2; omega),if_pos ⟨of_decide_eq_true hg17_4,of_decide_eq_true hb18⟩]; done)
    | (suffices h' : refPut l o = (l,9) by (rw [hx.keepT,putVL,h']; rfl)
       rw [refPut,if_neg (by rw [Bool.not_eq_false'] at hb4; simp [hb4]),if_neg (by have := of_decide_eq_false hg8_2; omega),if_neg (by first | (have := of_decide_eq_false hb18; omega) | (have := of_decide_eq_false hg17_4; omega)),if_pos (by first | (have := of_decide_eq_true hb22; omega) | (have := of_decide_eq_true hb28; omega))]; done)
    | (suffices h' : refPut l o = (l ++ [o],0) by (rw [hke,putVL,h']; rfl)
       rw [refPut,if_neg (by rw [Bool.not_eq_false'] at hb4; simp [hb4]),if_neg (by have := of_decide_eq_false hg8_2; omega),if_neg (by first | (have := of_decide_eq_false hb18; omega) | (have := of_decide_eq_false hg17_4; omega)),if_neg (by first | (have := of_decide_eq_false hb22; omega) | (have := of_decide_eq_false hb28; omega))]; done)
  ·simp only [sS,↓sT,Nat.reduceLT,Nat.reduceEqDiff,↓sD,↓D_g,memOk,lets0,lets1,List.not_mem_nil,not_false_eq_true,true_and,and_true,sG,opV,loudV,cellsOf,strOp,evL,Nat.reduceAdd,Int.reduceBEq,Int.reduceBNe,ti52,ti49,bs0,TD.intK?,Option.isSome_some,Nat.reducePow,Nat.reduceLeDiff,range_zero,op_len,range_one,op_clean,hx.len,hx.elems,hia,hap1,hap2,hwn,hbs,op_cells,op_isC,opCells,List.all_cons,List.all_nil,icell_int,icell_str,icell_bool,dropsW_isC,Bool.and_self,load15,load_int,List.drop_zero,tag_load2,tag_load,tag_fold,gt_iff_lt,ge_iff_le,elems_one,ti3,ti25,hb4,hg8_2]
   refine hN8 _ ?_; try clear hN8 hD8 N8
   refine WC_condE ?_
   simp only [sS,↓sT,Nat.reduceLT,Nat.reduceEqDiff,↓stepC_bool,hb4,hg8_2,Int.reduceBEq,Int.reduceBNe,beq_self_eq_true,bne_self_eq_false]
   refine ⟨fun hb => (by cases hb),fun hb => ?_⟩
   refine WC_skip ?_
   refine hN7 _ ?_; try clear hN7 hD7 N7
   refine WC_seqN (fun N14 hN14 hD14 => ?_)
   refine WC_seqR (fun N15 hN15 hD15 => ?_)
   simp only [sS,↓sT,Nat.reduceLT,Nat.reduceEqDiff,↓sO,↓WOps_g,sG,opV,loudV,cellsOf,strOp,evL,Nat.reduceAdd,Int.reduceBEq,Int.reduceBNe,bs0,TD.intK?,Option.isSome_some,Nat.reducePow,Nat.reduceLeDiff,range_zero,op_len,range_one,op_clean,hx.len,hx.elems,hia,hap1,hap2,hwn,hbs,op_cells,op_isC,opCells,List.all_cons,List.all_nil,icell_int,icell_str,icell_bool,dropsW_isC,Bool.and_self,load15,load_int,List.drop_zero,tag_load2,tag_load,tag_fold,gt_iff_lt,ge_iff_le,elems_one,ti3,ti49,ti25,hb4,hg8_2]
   refine hN15 _ ?_; try clear hN15 hD15 N15
   refine WC_condE ?_
   simp only [sS,↓sT,Nat.reduceLT,Nat.reduceEqDiff,↓stepC_bool,hb4,hg8_2,Int.reduceBEq,Int.reduceBNe,beq_self_eq_true,bne_self_eq_false]
   refine ⟨fun hb => (by cases hb),fun hb => ?_⟩
   refine WC_skip ?_
   refine hN14 _ ?_; try clear hN14 hD14 N14
   refine WC_seqN (fun N16 hN16 hD16 => ?_)
   refine WC_seqR (fun N17 hN17 hD17 => ?_)
   simp only [sS,↓sT,Nat.reduceLT,Nat.reduceEqDiff,↓sO,↓WOps_g,sG,opV,loudV,cellsOf,strOp,evL,Nat.reduceAdd,Int.reduceBEq,Int.reduceBNe,fS49,fS25,ti3,buildV,evParts,V.isCell,List.all_cons,List.all_nil,Bool.and_self,if_true,placesOf,fillV,List.getElem?_cons_zero,List.getElem?_cons_succ,List.length_cons,List.length_nil,Nat.zero_add,ne_eq,not_true_eq_false,false_or,gt_iff_lt,if_false,wrL,Option.map_some,List.set_cons_zero,List.set_cons_succ,ti25,bs0,TD.intK?,Option.isSome_some,Nat.reducePow,Nat.reduceLeDiff,range_zero,op_len,range_one,op_clean,hx.len,hx.elems,hia,hap1,hap2,hwn,hbs,op_cells,op_isC,opCells,icell_int,icell_str,icell_bool,dropsW_isC,load15,load_int,List.drop_zero,tag_load2,tag_load,tag_fold,ge_iff_le,elems_one,ti49,hb4,hg8_2]
   refine stepB_T (fun hg17_4 => ?_) (fun hg17_4 => ?_)
   ·simp only [sS,↓sT,Nat.reduceLT,Nat.reduceEqDiff,↓sO,↓WOps_g,sG,opV,loudV,cellsOf,strOp,evL,Nat.reduceAdd,Int.reduceBEq,Int.reduceBNe,fS49,fS25,ti3,buildV,evParts,V.isCell,List.all_cons,List.all_nil,Bool.and_self,if_true,placesOf,fillV,List.getElem?_cons_zero,List.getElem?_cons_succ,List.length_cons,List.length_nil,Nat.zero_add,ne_eq,not_true_eq_false,false_or,gt_iff_lt,if_false,wrL,Option.map_some,List.set_cons_zero,List.set_cons_succ,ti25,bs0,TD.intK?,Option.isSome_some,Nat.reducePow,Nat.reduceLeDiff,range_zero,op_len,range_one,op_clean,hx.len,hx.elems,hia,hap1,hap2,hwn,hbs,op_cells,op_isC,opCells,icell_int,icell_str,icell_bool,dropsW_isC,load15,load_int,List.drop_zero,tag_load2,tag_load,tag_fold,ge_iff_le,elems_one,ti49,hb4,hg8_2,hg17_4]
    refine WOps_callP (c_punnet_punnetref26_At l x hx o.idR (o.idN - 1) (by unfold maxLen; omega)) (by simp only [ev_func]) (by simp only [evL,sS,↓sT,Nat.reduceLT,Nat.reduceEqDiff]; rfl) (by first | rfl | (simp only [List.map,op_bare,tag_bare,hx.bare]; done) | (simp only [List.map,op_bare,tag_bare,hx.bare]; exact rfl)) (by first | rfl | simp [op_noP,tag_noP,hx.noP]) (by first | rfl | simp [op_noP,tag_noP,hx.noP]) (by first | exact op_bare _ | rfl) ?_
    simp only [sS,↓sT,Nat.reduceLT,Nat.reduceEqDiff,↓sO,↓WOps_g,sG,opV,loudV,cellsOf,strOp,evL,Nat.reduceAdd,Int.reduceBEq,Int.reduceBNe,fS49,fS25,ti3,buildV,evParts,V.isCell,List.all_cons,List.all_nil,Bool.and_self,if_true,placesOf,fillV,List.getElem?_cons_zero,List.getElem?_cons_succ,List.length_cons,List.length_nil,Nat.zero_add,ne_eq,not_true_eq_false,false_or,gt_iff_lt,if_false,wrL,Option.map_some,List.set_cons_zero,List.set_cons_succ,ti25,bs0,TD.intK?,Option.isSome_some,Nat.reducePow,Nat.reduceLeDiff,range_zero,op_len,range_one,op_clean,hx.len,hx.elems,hia,hap1,hap2,hwn,hbs,op_cells,op_isC,opCells,icell_int,icell_str,icell_bool,dropsW_isC,load15,load_int,List.drop_zero,tag_load2,tag_load,tag_fold,ge_iff_le,elems_one,ti49,hb4,hg8_2,hg17_4]
    refine hN17 _ ?_; try clear hN17 hD17 N17
    refine WC_condE ?_
    simp only [sS,↓sT,Nat.reduceLT,Nat.reduceEqDiff,↓stepC_bool,hb4,hg8_2,hg17_4,Int.reduceBEq,Int.reduceBNe,beq_self_eq_true,bne_self_eq_false]
    refine ⟨fun hb18 => ?_,fun hb18 => ?_⟩
    ·refine WC_seqR (fun N19 hN19 hD19 => ?_)
     simp only [sS,↓sT,Nat.reduceLT,Nat.reduceEqDiff,↓sO,↓WOps_g,sG,opV,loudV,cellsOf,strOp,evL,Nat.reduceAdd,Int.reduceBEq,Int.reduceBNe,bs0,TD.intK?,Option.isSome_some,Nat.reducePow,Nat.reduceLeDiff,range_zero,op_len,range_one,op_clean,hx.len,hx.elems,hia,hap1,hap2,hwn,hbs,op_cells,op_isC,opCells,List.all_cons,List.all_nil,icell_int,icell_str,icell_bool,dropsW_isC,Bool.and_self,load15,load_int,List.drop_zero,tag_load2,tag_load,tag_fold,gt_iff_lt,ge_iff_le,elems_one,ti3,ti49,ti25,hb4,hg8_2,hg17_4,hb18]
     refine hN19 _ ?_; try clear hN19 hD19 N19
     refine WC_sub (ow' := []) (fun q hq => by cases hq) ?_
     refine WC_ret ?_; (try simp only [Exit.after,Exit.out]); refine Kend_ret (by first | (simp only [resOf,resL,resV,mkS_get,slots_get,cellsOf,sS,↓sT,Nat.reduceLT,Nat.reduceEqDiff]; done) | (simp only [resOf,resL,resV,mkS_get,slots_get,cellsOf,sS,↓sT,Nat.reduceLT,Nat.reduceEqDiff]; rfl)) (by first | exact hx.okT _ _ | exact hok _ _) ?_
     clear hN16 hD16 N16
     first
     | (suffices h' : refPut l o = (l,5) by (rw [hx.keepT,putVL,h']; rfl)
        clear hap1 hap2 hok hke hx hia hdp hpl hwn hbs hd
        rw [refPut]; simp_all; done)
     | (suffices h' : refPut l o = (l,7) by (rw [hx.keepT,putVL,h']; rfl)
        clear hap1 hap2 hok hke hx hia hdp hpl hwn hbs hd
        rw [refPut]; simp_all; done)
     | (suffices h' : refPut l o = (l,15) by (rw [hx.keepT,putVL,h']; rfl)
        clear hap1 hap2 hok hke hx hia hdp hpl hwn hbs hd
        rw [refPut]; simp_all; done)
     | (suffices h' : refPut l o = (l,17) by (rw [hx.keepT,putVL,h']; rfl)
        rw [refPut,if_neg (by rw [Bool.not_eq_false'] at hb4; simp [hb4]),if_neg (by have := of_decide_eq_false hg8_2; omega),if_pos ⟨of_decide_eq_true hg17_4,of_decide_eq_true hb18⟩]; done)
     | (suffices h' : refPut l o = (l,9) by (rw [hx.keepT,putVL,h']; rfl)
        rw [refPut,if_neg (by rw [Bool.not_eq_false'] at hb4; simp [hb4]),if_neg (by have := of_decide_eq_false hg8_2; omega),if_neg (by first | (have := of_decide_eq_false hb18; omega) | (have := of_decide_eq_false hg17_4; omega)),if_pos (by first | (have := of_decide_eq_true hb22; omega) | (have := of_decide_eq_true hb28; omega))]; done)
     | (suffices h' : refPut l o = (l ++ [o],0) by (rw [hke,putVL,h']; rfl)
        rw [refPut,if_neg (by rw [Bool.not_eq_false'] at hb4; simp [hb4]),if_neg (by have := of_decide_eq_false hg8_2; omega),if_neg (by first | (have := of_decide_eq_false hb18; omega) | (have := of_decide_eq_false hg17_4; omega)),if_neg (by first | (have := of_decide_eq_false hb22; omega) | (have := of_decide_eq_false hb28; omega))]; done)
    ·refine WC_skip ?_
     refine hN16 _ ?_; try clear hN16 hD16 N16
     refine WC_seqN (fun N20 hN20 hD20 => ?_)
     refine WC_seqR (fun N21 hN21 hD21 => ?_)
     simp only [sS,↓sT,Nat.reduceLT,Nat.reduceEqDiff,↓sO,↓WOps_g,sG,opV,loudV,cellsOf,strOp,evL,Nat.reduceAdd,Int.reduceBEq,Int.reduceBNe,ti52,bs0,TD.intK?,Option.isSome_some,Nat.reducePow,Nat.reduceLeDiff,range_zero,op_len,range_one,op_clean,hx.len,hx.elems,hia,hap1,hap2,hwn,hbs,op_cells,op_isC,opCells,List.all_cons,List.all_nil,icell_int,icell_str,icell_bool,dropsW_isC,Bool.and_self,load15,load_int,List.drop_zero,tag_load2,tag_load,tag_fold,gt_iff_lt,ge_iff_le,elems_one,ti3,ti49,ti25,hb4,hg8_2,hg17_4,hb18]
     refine hN21 _ ?_; try clear hN21 hD21 N21
     refine WC_condE ?_
     simp only [sS,↓sT,Nat.reduceLT,Nat.reduceEqDiff,↓stepC_bool,hb4,hg8_2,hg17_4,hb18,Int.reduceBEq,Int.reduceBNe,beq_self_eq_true,bne_self_eq_false]
     refine ⟨fun hb22 => ?_,fun hb22 => ?_⟩
     ·refine WC_seqR (fun N23 hN23 hD23 => ?_)
      simp only [sS,↓sT,Nat.reduceLT,Nat.reduceEqDiff,↓sO,↓WOps_g,sG,opV,loudV,cellsOf,strOp,evL,Nat.reduceAdd,Int.reduceBEq,Int.reduceBNe,bs0,TD.intK?,Option.isSome_some,Nat.reducePow,Nat.reduceLeDiff,range_zero,op_len,range_one,op_clean,hx.len,hx.elems,hia,hap1,hap2,hwn,hbs,op_cells,op_isC,opCells,List.all_cons,List.all_nil,icell_int,icell_str,icell_bool,dropsW_isC,Bool.and_self,load15,load_int,List.drop_zero,tag_load2,tag_load,tag_fold,gt_iff_lt,ge_iff_le,elems_one,ti3,ti49,ti25,hb4,hg8_2,hg17_4,hb18,hb22]
      refine hN23 _ ?_; try clear hN23 hD23 N23
      refine WC_sub (ow' := []) (fun q hq => by cases hq) ?_
      refine WC_ret ?_; (try simp only [Exit.after,Exit.out]); refine Kend_ret (by first | (simp only [resOf,resL,resV,mkS_get,slots_get,cellsOf,sS,↓sT,Nat.reduceLT,Nat.reduceEqDiff]; done) | (simp only [resOf,resL,resV,mkS_get,slots_get,cellsOf,sS,↓sT,Nat.reduceLT,Nat.reduceEqDiff]; rfl)) (by first | exact hx.okT _ _ | exact hok _ _) ?_
      clear hN20 hD20 N20
      first
      | (suffices h' : refPut l o = (l,5) by (rw [hx.keepT,putVL,h']; rfl)
         clear hap1 hap2 hok hke hx hia hdp hpl hwn hbs hd
         rw [refPut]; simp_all; done)
      | (suffices h' : refPut l o = (l,7) by (rw [hx.keepT,putVL,h']; rfl)
         clear hap1 hap2 hok hke hx hia hdp hpl hwn hbs hd
         rw [refPut]; simp_all; done)
      | (suffices h' : refPut l o = (l,15) by (rw [hx.keepT,putVL,h']; rfl)
         clear hap1 hap2 hok hke hx hia hdp hpl hwn hbs hd
         rw [refPut]; simp_all; done)
      | (suffices h' : refPut l o = (l,17) by (rw [hx.keepT,putVL,h']; rfl)
         rw [refPut,if_neg (by rw [Bool.not_eq_false'] at hb4; simp [hb4]),if_neg (by have := of_decide_eq_false hg8_2; omega),if_pos ⟨of_decide_eq_true hg17_4,of_decide_eq_true hb18⟩]; done)
      | (suffices h' : refPut l o = (l,9) by (rw [hx.keepT,putVL,h']; rfl)
         rw [refPut,if_neg (by rw [Bool.not_eq_false'] at hb4; simp [hb4]),if_neg (by have := of_decide_eq_false hg8_2; omega),if_neg (by first | (have := of_decide_eq_false hb18; omega) | (have := of_decide_eq_false hg17_4; omega)),if_pos (by first | (have := of_decide_eq_true hb22; omega) | (have := of_decide_eq_true hb28; omega))]; done)
      | (suffices h' : refPut l o = (l ++ [o],0) by (rw [hke,putVL,h']; rfl)
         rw [refPut,if_neg (by rw [Bool.not_eq_false'] at hb4; simp [hb4]),if_neg (by have := of_decide_eq_false hg8_2; omega),if_neg (by first | (have := of_decide_eq_false hb18; omega) | (have := of_decide_eq_false hg17_4; omega)),if_neg (by first | (have := of_decide_eq_false hb22; omega) | (have := of_decide_eq_false hb28; omega))]; done)
     ·refine WC_skip ?_
      refine hN20 _ ?_; try clear hN20 hD20 N20
      refine WC_seqR (fun N24 hN24 hD24 => ?_)
      simp only [sS,↓sT,Nat.reduceLT,Nat.reduceEqDiff,↓sO,↓WOps_g,sG,opV,loudV,cellsOf,strOp,evL,Nat.reduceAdd,Int.reduceBEq,Int.reduceBNe,buildSliceV,ti52,bs0,TD.intK?,Option.isSome_some,Nat.reducePow,Nat.reduceLeDiff,range_zero,op_len,range_one,op_clean,hx.len,hx.elems,hia,hap1,hap2,hwn,hbs,op_cells,op_isC,opCells,List.all_cons,List.all_nil,icell_int,icell_str,icell_bool,dropsW_isC,Bool.and_self,load15,load_int,List.drop_zero,tag_load2,tag_load,tag_fold,gt_iff_lt,ge_iff_le,elems_one,ti3,ti49,ti25,hb4,hg8_2,hg17_4,hb18,hb22]
      refine hN24 _ ?_; try clear hN24 hD24 N24
      refine WC_seqR (fun N25 hN25 hD25 => ?_)
      simp only [sS,↓sT,Nat.reduceLT,Nat.reduceEqDiff,↓sO,↓WOps_g,sG,opV,loudV,cellsOf,strOp,evL,Nat.reduceAdd,Int.reduceBEq,Int.reduceBNe,ti49,buildSliceV,ti52,bs0,TD.intK?,Option.isSome_some,Nat.reducePow,Nat.reduceLeDiff,range_zero,op_len,range_one,op_clean,hx.len,hx.elems,hia,hap1,hap2,hwn,hbs,op_cells,op_isC,opCells,List.all_cons,List.all_nil,icell_int,icell_str,icell_bool,dropsW_isC,Bool.and_self,load15,load_int,List.drop_zero,tag_load2,tag_load,tag_fold,gt_iff_lt,ge_iff_le,elems_one,ti3,ti25,hb4,hg8_2,hg17_4,hb18,hb22]
      refine hN25 _ ?_; try clear hN25 hD25 N25
      refine WC_sub (ow' := []) (fun q hq => by cases hq) ?_
      refine WC_ret ?_; (try simp only [Exit.after,Exit.out]); refine Kend_ret (by first | (simp only [resOf,resL,resV,mkS_get,slots_get,cellsOf,sS,↓sT,Nat.reduceLT,Nat.reduceEqDiff]; done) | (simp only [resOf,resL,resV,mkS_get,slots_get,cellsOf,sS,↓sT,Nat.reduceLT,Nat.reduceEqDiff]; rfl)) (by first | exact hx.okT _ _ | exact hok _ _) ?_
      first
      | (suffices h' : refPut l o = (l,5) by (rw [hx.keepT,putVL,h']; rfl)
         clear hap1 hap2 hok hke hx hia hdp hpl hwn hbs hd
         rw [refPut]; simp_all; done)
      | (suffices h' : refPut l o = (l,7) by (rw [hx.keepT,putVL,h']; rfl)
         clear hap1 hap2 hok hke hx hia hdp hpl hwn hbs hd
         rw [refPut]; simp_all; done)
      | (suffices h' : refPut l o = (l,15) by (rw [hx.keepT,putVL,h']; rfl)
         clear hap1 hap2 hok hke hx hia hdp hpl hwn hbs hd
         rw [refPut]; simp_all; done)
      | (suffices h' : refPut l o = (l,17) by (rw [hx.keepT,putVL,h']; rfl)
         rw [refPut,if_neg (by rw [Bool.not_eq_false'] at hb4; simp [hb4]),if_neg (by have := of_decide_eq_false hg8_2; omega),if_pos ⟨of_decide_eq_true hg17_4,of_decide_eq_true hb18⟩]; done)
      | (suffices h' : refPut l o = (l,9) by (rw [hx.keepT,putVL,h']; rfl)
         rw [refPut,if_neg (by rw [Bool.not_eq_false'] at hb4; simp [hb4]),if_neg (by have := of_decide_eq_false hg8_2; omega),if_neg (by first | (have := of_decide_eq_false hb18; omega) | (have := of_decide_eq_false hg17_4; omega)),if_pos (by first | (have := of_decide_eq_true hb22; omega) | (have := of_decide_eq_true hb28; omega))]; done)
      | (suffices h' : refPut l o = (l ++ [o],0) by (rw [hke,putVL,h']; rfl)
         rw [refPut,if_neg (by rw [Bool.not_eq_false'] at hb4; simp [hb4]),if_neg (by have := of_decide_eq_false hg8_2; omega),if_neg (by first | (have := of_decide_eq_false hb18; omega) | (have := of_decide_eq_false hg17_4; omega)),if_neg (by first | (have := of_decide_eq_false hb22; omega) | (have := of_decide_eq_false hb28; omega))]; done)
   ·simp only [sS,↓sT,Nat.reduceLT,Nat.reduceEqDiff,↓sO,↓WOps_g,sG,opV,loudV,cellsOf,strOp,evL,Nat.reduceAdd,Int.reduceBEq,Int.reduceBNe,fS49,fS25,ti3,buildV,evParts,V.isCell,List.all_cons,List.all_nil,Bool.and_self,if_true,placesOf,fillV,List.getElem?_cons_zero,List.getElem?_cons_succ,List.length_cons,List.length_nil,Nat.zero_add,ne_eq,not_true_eq_false,false_or,gt_iff_lt,if_false,wrL,Option.map_some,List.set_cons_zero,List.set_cons_succ,ti25,bs0,TD.intK?,Option.isSome_some,Nat.reducePow,Nat.reduceLeDiff,range_zero,op_len,range_one,op_clean,hx.len,hx.elems,hia,hap1,hap2,hwn,hbs,op_cells,op_isC,opCells,icell_int,icell_str,icell_bool,dropsW_isC,load15,load_int,List.drop_zero,tag_load2,tag_load,tag_fold,ge_iff_le,elems_one,ti49,hb4,hg8_2,hg17_4]
    refine hN17 _ ?_; try clear hN17 hD17 N17
    refine WC_condE ?_
    simp only [sS,↓sT,Nat.reduceLT,Nat.reduceEqDiff,↓stepC_bool,hb4,hg8_2,hg17_4,Int.reduceBEq,Int.reduceBNe,beq_self_eq_true,bne_self_eq_false]
    refine ⟨fun hb => (by cases hb),fun hb => ?_⟩
    refine WC_skip ?_
    refine hN16 _ ?_; try clear hN16 hD16 N16
    refine WC_seqN (fun N26 hN26 hD26 => ?_)
    refine WC_seqR (fun N27 hN27 hD27 => ?_)
    simp only [sS,↓sT,Nat.reduceLT,Nat.reduceEqDiff,↓sO,↓WOps_g,sG,opV,loudV,cellsOf,strOp,evL,Nat.reduceAdd,Int.reduceBEq,Int.reduceBNe,ti52,bs0,TD.intK?,Option.isSome_some,Nat.reducePow,Nat.reduceLeDiff,range_zero,op_len,range_one,op_clean,hx.len,hx.elems,hia,hap1,hap2,hwn,hbs,op_cells,op_isC,opCells,List.all_cons,List.all_nil,icell_int,icell_str,icell_bool,dropsW_isC,Bool.and_self,load15,load_int,List.drop_zero,tag_load2,tag_load,tag_fold,gt_iff_lt,ge_iff_le,elems_one,ti3,ti49,ti25,hb4,hg8_2,hg17_4]
    refine hN27 _ ?_; try clear hN27 hD27 N27
    refine WC_condE ?_
    simp only [sS,↓sT,Nat.reduceLT,Nat.reduceEqDiff,↓stepC_bool,hb4,hg8_2,hg17_4,Int.reduceBEq,Int.reduceBNe,beq_self_eq_true,bne_self_eq_false]
    refine ⟨fun hb28 => ?_,fun hb28 => ?_⟩
    ·refine WC_seqR (fun N29 hN29 hD29 => ?_)
     simp only [sS,↓sT,Nat.reduceLT,Nat.reduceEqDiff,↓sO,↓WOps_g,sG,opV,loudV,cellsOf,strOp,evL,Nat.reduceAdd,Int.reduceBEq,Int.reduceBNe,bs0,TD.intK?,Option.isSome_some,Nat.reducePow,Nat.reduceLeDiff,range_zero,op_len,range_one,op_clean,hx.len,hx.elems,hia,hap1,hap2,hwn,hbs,op_cells,op_isC,opCells,List.all_cons,List.all_nil,icell_int,icell_str,icell_bool,dropsW_isC,Bool.and_self,load15,load_int,List.drop_zero,tag_load2,tag_load,tag_fold,gt_iff_lt,ge_iff_le,elems_one,ti3,ti49,ti25,hb4,hg8_2,hg17_4,hb28]
     refine hN29 _ ?_; try clear hN29 hD29 N29
     refine WC_sub (ow' := []) (fun q hq => by cases hq) ?_
     refine WC_ret ?_; (try simp only [Exit.after,Exit.out]); refine Kend_ret (by first | (simp only [resOf,resL,resV,mkS_get,slots_get,cellsOf,sS,↓sT,Nat.reduceLT,Nat.reduceEqDiff]; done) | (simp only [resOf,resL,resV,mkS_get,slots_get,cellsOf,sS,↓sT,Nat.reduceLT,Nat.reduceEqDiff]; rfl)) (by first | exact hx.okT _ _ | exact hok _ _) ?_
     clear hN26 hD26 N26
     first
     | (suffices h' : refPut l o = (l,5) by (rw [hx.keepT,putVL,h']; rfl)
        clear hap1 hap2 hok hke hx hia hdp hpl hwn hbs hd
        rw [refPut]; simp_all; done)
     | (suffices h' : refPut l o = (l,7) by (rw [hx.keepT,putVL,h']; rfl)
        clear hap1 hap2 hok hke hx hia hdp hpl hwn hbs hd
        rw [refPut]; simp_all; done)
     | (suffices h' : refPut l o = (l,15) by (rw [hx.keepT,putVL,h']; rfl)
        clear hap1 hap2 hok hke hx hia hdp hpl hwn hbs hd
        rw [refPut]; simp_all; done)
     | (suffices h' : refPut l o = (l,17) by (rw [hx.keepT,putVL,h']; rfl)
        rw [refPut,if_neg (by rw [Bool.not_eq_false'] at hb4; simp [hb4]),if_neg (by have := of_decide_eq_false hg8_2; omega),if_pos ⟨of_decide_eq_true hg17_4,of_decide_eq_true hb18⟩]; done)
     | (suffices h' : refPut l o = (l,9) by (rw [hx.keepT,putVL,h']; rfl)
        rw [refPut,if_neg (by rw [Bool.not_eq_false'] at hb4; simp [hb4]),if_neg (by have := of_decide_eq_false hg8_2; omega),if_neg (by first | (have := of_decide_eq_false hb18; omega) | (have := of_decide_eq_false hg17_4; omega)),if_pos (by first | (have := of_decide_eq_true hb22; omega) | (have := of_decide_eq_true hb28; omega))]; done)
     | (suffices h' : refPut l o = (l ++ [o],0) by (rw [hke,putVL,h']; rfl)
        rw [refPut,if_neg (by rw [Bool.not_eq_false'] at hb4; simp [hb4]),if_neg (by have := of_decide_eq_false hg8_2; omega),if_neg (by first | (have := of_decide_eq_false hb18; omega) | (have := of_decide_eq_false hg17_4; omega)),if_neg (by first | (have := of_decide_eq_false hb22; omega) | (have := of_decide_eq_false hb28; omega))]; done)
    ·refine WC_skip ?_
     refine hN26 _ ?_; try clear hN26 hD26 N26
     refine WC_seqR (fun N30 hN30 hD30 => ?_)
     simp only [sS,↓sT,Nat.reduceLT,Nat.reduceEqDiff,↓sO,↓WOps_g,sG,opV,loudV,cellsOf,strOp,evL,Nat.reduceAdd,Int.reduceBEq,Int.reduceBNe,buildSliceV,ti52,bs0,TD.intK?,Option.isSome_some,Nat.reducePow,Nat.reduceLeDiff,range_zero,op_len,range_one,op_clean,hx.len,hx.elems,hia,hap1,hap2,hwn,hbs,op_cells,op_isC,opCells,List.all_cons,List.all_nil,icell_int,icell_str,icell_bool,dropsW_isC,Bool.and_self,load15,load_int,List.drop_zero,tag_load2,tag_load,tag_fold,gt_iff_lt,ge_iff_le,elems_one,ti3,ti49,ti25,hb4,hg8_2,hg17_4,hb28]
     refine hN30 _ ?_; try clear hN30 hD30 N30
     refine WC_seqR (fun N31 hN31 hD31 => ?_)
     simp only [sS,↓sT,Nat.reduceLT,Nat.reduceEqDiff,↓sO,↓WOps_g,sG,opV,loudV,cellsOf,strOp,evL,Nat.reduceAdd,Int.reduceBEq,Int.reduceBNe,ti49,buildSliceV,ti52,bs0,TD.intK?,Option.isSome_some,Nat.reducePow,Nat.reduceLeDiff,range_zero,op_len,range_one,op_clean,hx.len,hx.elems,hia,hap1,hap2,hwn,hbs,op_cells,op_isC,opCells,List.all_cons,List.all_nil,icell_int,icell_str,icell_bool,dropsW_isC,Bool.and_self,load15,load_int,List.drop_zero,tag_load2,tag_load,tag_fold,gt_iff_lt,ge_iff_le,elems_one,ti3,ti25,hb4,hg8_2,hg17_4,hb28]
     refine hN31 _ ?_; try clear hN31 hD31 N31
     refine WC_sub (ow' := []) (fun q hq => by cases hq) ?_
     refine WC_ret ?_; (try simp only [Exit.after,Exit.out]); refine Kend_ret (by first | (simp only [resOf,resL,resV,mkS_get,slots_get,cellsOf,sS,↓sT,Nat.reduceLT,Nat.reduceEqDiff]; done) | (simp only [resOf,resL,resV,mkS_get,slots_get,cellsOf,sS,↓sT,Nat.reduceLT,Nat.reduceEqDiff]; rfl)) (by first | exact hx.okT _ _ | exact hok _ _) ?_
     first
     | (suffices h' : refPut l o = (l,5) by (rw [hx.keepT,putVL,h']; rfl)
        clear hap1 hap2 hok hke hx hia hdp hpl hwn hbs hd
        rw [refPut]; simp_all; done)
     | (suffices h' : refPut l o = (l,7) by (rw [hx.keepT,putVL,h']; rfl)
        clear hap1 hap2 hok hke hx hia hdp hpl hwn hbs hd
        rw [refPut]; simp_all; done)
     | (suffices h' : refPut l o = (l,15) by (rw [hx.keepT,putVL,h']; rfl)
        clear hap1 hap2 hok hke hx hia hdp hpl hwn hbs hd
        rw [refPut]; simp_all; done)
     | (suffices h' : refPut l o = (l,17) by (rw [hx.keepT,putVL,h']; rfl)
        rw [refPut,if_neg (by rw [Bool.not_eq_false'] at hb4; simp [hb4]),if_neg (by have := of_decide_eq_false hg8_2; omega),if_pos ⟨of_decide_eq_true hg17_4,of_decide_eq_true hb18⟩]; done)
     | (suffices h' : refPut l o = (l,9) by (rw [hx.keepT,putVL,h']; rfl)
        rw [refPut,if_neg (by rw [Bool.not_eq_false'] at hb4; simp [hb4]),if_neg (by have := of_decide_eq_false hg8_2; omega),if_neg (by first | (have := of_decide_eq_false hb18; omega) | (have := of_decide_eq_false hg17_4; omega)),if_pos (by first | (have := of_decide_eq_true hb22; omega) | (have := of_decide_eq_true hb28; omega))]; done)
     | (suffices h' : refPut l o = (l ++ [o],0) by (rw [hke,putVL,h']; rfl)
        rw [refPut,if_neg (by rw [Bool.not_eq_false'] at hb4; simp [hb4]),if_neg (by have := of_decide_eq_false hg8_2; omega),if_neg (by first | (have := of_decide_eq_false hb18; omega) | (have := of_decide_eq_false hg17_4; omega)),if_neg (by first | (have := of_decide_eq_false hb22; omega) | (have := of_decide_eq_false hb28; omega))]; done)
end Go.PV
/- Pools and lists of ops: both take an op alike. -/
namespace Go.PV
open Go.Proofs
set_option linter.unusedVariables false
set_option linter.unusedSimpArgs false
set_option maxHeartbeats 1000000

theorem clone_clone (d : Dr) : cloneD (cloneD d) = cloneD d := by
  obtain ⟨l,v,h⟩ := d
  rcases h with ⟨rfl,rfl⟩ | ⟨ex,rfl⟩
  · rfl
  · cases l <;> rfl
theorem own_own (o : OpS) : o.own.own = o.own := by
  show ({ o with drops := cloneD (cloneD o.drops) } : OpS) = { o with drops := cloneD o.drops }
  rw [clone_clone]
theorem own_dropsL (o : OpS) : o.own.dropsL = o.dropsL := cloneD_l o.drops
theorem sameO_own (o p : OpS) : sameO o.own p = sameO o p := by
  unfold sameO
  rw [own_dropsL]; rfl
theorem parts_own (o : OpS) : (partsS o.own).dropsL = (partsS o).dropsL := by
  unfold partsS
  by_cases h : o.kind = 4 ∨ o.kind = 2 ∨ o.kind = 5
  · have h' : o.own.kind = 4 ∨ o.own.kind = 2 ∨ o.own.kind = 5 := h
    show (if _ then _ else _ : Dr).l = (if _ then _ else _ : Dr).l
    rw [if_pos h,if_pos h']; exact cloneD_l _
  · have h' : ¬ (o.own.kind = 4 ∨ o.own.kind = 2 ∨ o.own.kind = 5) := h
    show (if _ then _ else _ : Dr).l = (if _ then _ else _ : Dr).l
    rw [if_neg h,if_neg h']
theorem right_own (o : OpS) : rightS o.own = rightS o := by
  have h1 : sameO o.own (partsS o.own) = sameO o (partsS o) := by
    unfold sameO
    rw [own_dropsL,parts_own]; rfl
  have h2 : dropsB o.own = dropsB o := by unfold dropsB; rw [own_dropsL]; rfl
  unfold rightS
  rw [h1,h2]; rfl
theorem rightR_eq (o : OpS) : rightR o = rightS o := by
  rw [Bool.eq_iff_iff]
  by_cases h5 : o.kind = 5
  · simp [rightR,rightS,h5,sameO,partsS,fieldK,plainB,isNil,OpS.dropsL]
    constructor <;> (intro h; simp_all)
  · by_cases h1 : o.kind = 1
    · simp [rightR,rightS,h1,sameO,partsS,fieldK,plainB,isNil,OpS.dropsL,Dr.nil]
      constructor <;> (intro h; simp_all)
    · by_cases h2 : o.kind = 2
      · simp [rightR,rightS,h2,sameO,partsS,fieldK,plainB,isNil,OpS.dropsL,Dr.nil]
        constructor <;> (intro h; simp_all)
      · by_cases h3 : o.kind = 3
        · by_cases hs : o.atS = 1
          · simp [rightR,rightS,h3,hs,sameO,partsS,fieldK,plainB,isNil,OpS.dropsL,Dr.nil]

            grind
          · simp [rightR,rightS,h3,hs,sameO,partsS,fieldK,plainB,isNil,OpS.dropsL,Dr.nil,placeB]

            grind
        · by_cases h4 : o.kind = 4
          · by_cases hs : o.atS = 1
            · simp [rightR,rightS,h4,hs,sameO,partsS,fieldK,plainB,isNil,OpS.dropsL,Dr.nil]

              grind
            · simp [rightR,rightS,h4,hs,sameO,partsS,fieldK,plainB,isNil,OpS.dropsL,Dr.nil,placeB]

              grind
          · have hk : ¬ (1 ≤ o.kind ∧ o.kind ≤ 5) := by omega
            have hR : rightS o = false := by
              cases hr : rightS o with
              | false => rfl
              | true => simp [rightS] at hr; omega
            rw [hR]
            simp [rightR,h5,h1,h2,h3,h4]
end Go.PV
/- Pools and lists of ops: what holds between them. -/
namespace Go.PV
open Go.Proofs
set_option linter.unusedVariables false
set_option linter.unusedSimpArgs false
set_option maxHeartbeats 1000000

/-- the ops of a replica -/
def grp (m : List OpS) (r : Int) : List OpS := m.filter (fun o => o.idR == r)
structure Rel (Ls : List (List OpS)) (m : List OpS) : Prop where
  len : Ls.length = 6
  right : ∀ o ∈ m,rightS o = true
  gr : ∀ k : Nat,k < 6 → Ls.getD k [] = (grp m (k + 1)).map OpS.own
  nu : ∀ (r : Int) (j : Nat) (o : OpS),(grp m r)[j]? = some o → o.idN = (j : Int) + 1
  tt : tot Ls = m.length
theorem rel_nil : Rel emptyL [] := ⟨rfl, fun o h => (by cases h), fun k hk => by
    have : ∀ k : Nat,emptyL.getD k [] = [] := fun k => by
      simp only [emptyL]
      match k with
      | 0 => rfl
      | 1 => rfl
      | 2 => rfl
      | 3 => rfl
      | 4 => rfl
      | 5 => rfl
      | k + 6 => rfl
    rw [this]; rfl,fun r j o h => by simp [Go.PV.grp] at h,rfl⟩
theorem Rel.has {Ls : List (List OpS)} {m : List OpS} (h : Rel Ls m) (r n : Int) : (∃ p ∈ m, isB r n p = true) ↔ 1 ≤ n ∧ n ≤ ((Go.PV.grp m r).length : Int) := by
  constructor
  · rintro ⟨p,hp,hb⟩
    simp only [isB,Bool.and_eq_true,beq_iff_eq] at hb
    have hg : p ∈ Go.PV.grp m r := List.mem_filter.2 ⟨hp,by simp [hb.1]⟩
    obtain ⟨j,hj⟩ := List.getElem?_of_mem hg
    have := h.nu r j p hj
    have := (List.getElem?_eq_some_iff.1 hj).1
    omega
  · rintro ⟨h1,h2⟩
    obtain ⟨p,hp⟩ : ∃ p,(Go.PV.grp m r)[(n - 1).toNat]? = some p := ⟨_,List.getElem?_eq_getElem (by omega)⟩
    have hn := h.nu r _ p hp
    have hm := List.mem_of_getElem? hp
    obtain ⟨h3,h4⟩ := List.mem_filter.1 hm
    refine ⟨p,h3, ?_⟩
    simp only [isB,Bool.and_eq_true]
    exact ⟨h4,by simp; omega⟩
theorem Rel.at {Ls : List (List OpS)} {m : List OpS} (h : Rel Ls m) {r n : Int} {p : OpS} (hp : p ∈ m) (hb : isB r n p = true) : (Go.PV.grp m r)[(n - 1).toNat]? = some p := by
  simp only [isB,Bool.and_eq_true,beq_iff_eq] at hb
  have hg : p ∈ Go.PV.grp m r := List.mem_filter.2 ⟨hp,by simp [hb.1]⟩
  obtain ⟨j,hj⟩ := List.getElem?_of_mem hg
  have := h.nu r j p hj
  rw [show (n - 1).toNat = j from by omega]; exact hj
theorem atL_iff (l : List OpS) (r n : Int) : 0 ≤ atL l r n ↔ ∃ p ∈ l, isB r n p = true := by
  constructor
  · intro h
    obtain ⟨o,ho,hb⟩ := atL_get h
    exact ⟨o,List.mem_of_getElem? ho,hb⟩
  · rintro ⟨p,hp,hb⟩
    rcases Int.lt_or_le (atL l r n) 0 with h | h
    · rw [atL_lt h p hp] at hb; cases hb
    · exact h
theorem grp_snoc (m : List OpS) (o : OpS) (r : Int) : grp (m ++ [o]) r = if o.idR = r then grp m r ++ [o] else grp m r := by
  simp only [grp,List.filter_append,List.filter_cons,List.filter_nil]
  by_cases h : o.idR = r
  · simp [h]
  · simp [h]
theorem Rel.put {Ls : List (List OpS)} {m : List OpS} (h : Rel Ls m) (hm : m.length < 400) (o : OpS) : (putS Ls o).1 = (refPut m o).2 ∧ Rel (putL Ls o) (refPut m o).1 := by
  cases hR : rightS o with
  | false =>
    have e1 : putS Ls o = (5,Ls) := by simp [putS,hR]
    have e2 : refPut m o = (m,5) := by simp [refPut,rightR_eq,hR]
    rw [putL,e1,e2]; exact ⟨rfl,h⟩
  | true =>
    obtain ⟨r1,r6,_⟩ := right_facts hR
    have hT : tagB o.idR o.idN = true := by
      simp only [rightS,Bool.and_eq_true] at hR; exact hR.2.2.2.2.2.1
    have hn := tagB_iff.1 hT
    have hk : (o.idR - 1).toNat < 6 := by omega
    have hL := h.gr _ hk
    rw [show (((o.idR - 1).toNat : Nat) : Int) + 1 = o.idR from by omega] at hL
    have hlen : (Ls.getD (o.idR - 1).toNat []).length = (Go.PV.grp m o.idR).length := by rw [hL,List.length_map]
    have hH : hasB (haveL Ls) o.idR o.idN = decide (o.idN ≤ ((Go.PV.grp m o.idR).length : Int)) := by
      rw [hasB,hT,have_getD,hlen,Bool.true_and]
    have hA := (atL_iff m o.idR o.idN).trans (h.has o.idR o.idN)
    have ht : tot Ls < 400 := by rw [h.tt]; exact hm
    have hRR : ¬ (rightR o = false) := by rw [rightR_eq,hR]; simp
    rw [putL,putS_eq _ _ hR,refPut,if_neg hRR]
    by_cases hf : o.idN ≤ ((Go.PV.grp m o.idR).length : Int)
    · have h0 : 0 ≤ atL m o.idR o.idN := hA.2 ⟨hn.2.2.1,hf⟩
      obtain ⟨p,hp,hb⟩ := atL_get h0
      have hat := h.at (List.mem_of_getElem? hp) hb
      have e1 : (findS Ls o.idR o.idN) = (p.own.own,0) := by
        rw [findS,if_pos (by rw [hH]; simpa using hf),atS,hL]
        simp only [List.getD,List.getElem?_map,hat]; rfl
      have e2 : m.getD (atL m o.idR o.idN).toNat opZ = p := by rw [List.getD,hp]; rfl
      rw [e1,if_pos h0,e2,if_pos rfl]
      simp only [sameO_own]
      exact ⟨trivial,h⟩
    · have h0 : ¬ 0 ≤ atL m o.idR o.idN := fun hc => hf (hA.1 hc).2
      have e1 : (findS Ls o.idR o.idN).2 ≠ 0 := by
        rw [findS,if_neg (by rw [hH]; simpa using hf)]; decide
      rw [if_neg e1,if_neg h0,hlen]
      have hA2 := (atL_iff m o.idR (o.idN - 1)).trans (h.has o.idR (o.idN - 1))
      by_cases hg : o.idN = ((Go.PV.grp m o.idR).length : Int) + 1
      · have h17 : ¬ (1 < o.idN ∧ atL m o.idR (o.idN - 1) < 0) := by
          rintro ⟨ha,hb⟩
          have := hA2.2 ⟨by omega,by omega⟩
          omega
        rw [if_neg (by simpa using hg),if_neg (tot_not ht),if_neg h17,if_neg (by omega)]
        refine ⟨rfl,⟨by simpa using h.len,fun q hq => ?_,fun k hk6 => ?_,fun r j q hq => ?_, ?_⟩⟩
        · rcases List.mem_append.1 hq with hq | hq
          · exact h.right q hq
          · obtain rfl := List.mem_singleton.1 hq; exact hR
        · rw [grp_snoc]
          by_cases hkr : (o.idR - 1).toNat = k
          · subst hkr
            rw [if_pos (by omega),List.map_append,List.getD,List.getElem?_set_self (by rw [h.len]; exact hk6),show (((o.idR - 1).toNat : Nat) : Int) + 1 = o.idR from by omega,← hL]; rfl
          · rw [if_neg (by omega),List.getD,List.getElem?_set_ne hkr]
            exact h.gr k hk6
        · rw [grp_snoc] at hq
          split at hq
          · rename_i hr
            subst hr
            rcases Nat.lt_or_ge j (Go.PV.grp m o.idR).length with hj | hj
            · rw [List.getElem?_append_left hj] at hq; exact h.nu _ j q hq
            · rw [List.getElem?_append_right hj] at hq
              have hj2 : j - (Go.PV.grp m o.idR).length = 0 := by
                have := (List.getElem?_eq_some_iff.1 hq).1
                simp at this; omega
              rw [hj2] at hq
              obtain rfl : o = q := by simpa using hq
              omega
          · exact h.nu r j q hq
        · have : ∀ (Ls : List (List OpS)) (k : Nat) (x : OpS),k < Ls.length → Go.PV.tot (Ls.set k (Ls.getD k [] ++ [x])) = Go.PV.tot Ls + 1 := by
            intro Ls
            induction Ls with
            | nil => intro k x hk; cases hk
            | cons a Ls ih =>
              intro k x hk
              cases k with
              | zero => simp [Go.PV.tot]; omega
              | succ k =>
                have := ih k x (by simpa using hk)
                simp only [Go.PV.tot,List.getD_cons_succ,List.set_cons_succ,List.map_cons,List.sum_cons] at this ⊢
                omega
          rw [this _ _ _ (by rw [h.len]; exact hk),h.tt,List.length_append]; rfl
      · have h17 : 1 < o.idN ∧ atL m o.idR (o.idN - 1) < 0 := by
          refine ⟨by omega, ?_⟩
          rcases Int.lt_or_le (atL m o.idR (o.idN - 1)) 0 with hc | hc
          · exact hc
          · have := hA2.1 hc; omega
        rw [if_pos hg,if_pos h17]
        exact ⟨rfl,h⟩
/-! ## the list, sorted -/
def flatG (m : List OpS) : List OpS := grp m 1 ++ (grp m 2 ++ (grp m 3 ++ (grp m 4 ++ (grp m 5 ++ grp m 6))))
theorem grp_idR {m : List OpS} {r : Int} {p : OpS} (h : p ∈ grp m r) : p.idR = r := by simpa using (List.mem_filter.1 h).2
theorem ins_mid {A B : List OpS} {o : OpS} (hA : ∀ p ∈ A, lessB p.idR p.idN o.idR o.idN = true) (hB : ∀ p ∈ B, lessB p.idR p.idN o.idR o.idN = false) : insL (A ++ B) o = A ++ o :: B := by
  have h := tw_take (p := fun p : OpS => lessB p.idR p.idN o.idR o.idN) (L := A ++ B) (k := A.length) (by rw [List.take_left']; exact List.all_eq_true.2 hA; rfl) (by
    cases B with
    | nil => exact .inl (by simp)
    | cons b B => exact .inr ⟨b,by simp,hB b (by simp)⟩)
  rw [insL,h.1,h.2,List.take_left' rfl,List.drop_left' rfl]
theorem less_iff (r n r' n' : Int) : lessB r n r' n' = true ↔ r < r' ∨ (r = r' ∧ n < n') := by simp [lessB]
theorem less_not (r n r' n' : Int) : lessB r n r' n' = false ↔ ¬ (r < r' ∨ (r = r' ∧ n < n')) := by rw [← less_iff]; simp
/-- an op that comes next in its replica goes behind its replica's -/
theorem flat_ins {Ls : List (List OpS)} {m : List OpS} (h : Rel Ls m) {o : OpS} (h1 : 1 ≤ o.idR) (h6 : o.idR ≤ 6) (hn : o.idN = ((grp m o.idR).length : Int) + 1) : insL (flatG m) o = flatG (m ++ [o]) := by
  have hlt : ∀ p ∈ grp m o.idR,lessB p.idR p.idN o.idR o.idN = true := fun p hp => by
    obtain ⟨j,hj⟩ := List.getElem?_of_mem hp
    have h1 := h.nu _ j p hj
    have h2 := (List.getElem?_eq_some_iff.1 hj).1
    rw [less_iff]; exact .inr ⟨grp_idR hp,by omega⟩
  have hA : ∀ r : Int,r < o.idR → ∀ p ∈ grp m r,lessB p.idR p.idN o.idR o.idN = true := fun r hr p hp => by
    rw [less_iff,grp_idR hp]; exact .inl hr
  have hB : ∀ r : Int,o.idR < r → ∀ p ∈ grp m r,lessB p.idR p.idN o.idR o.idN = false := fun r hr p hp => by
    rw [less_not,grp_idR hp]; omega
  have key : ∀ (A B : List OpS),flatG m = A ++ B → (∀ p ∈ A,lessB p.idR p.idN o.idR o.idN = true) → (∀ p ∈ B,lessB p.idR p.idN o.idR o.idN = false) → insL (flatG m) o = A ++ o :: B := fun A B e a b => by rw [e]; exact ins_mid a b
  rcases (show o.idR = 1 ∨ o.idR = 2 ∨ o.idR = 3 ∨ o.idR = 4 ∨ o.idR = 5 ∨ o.idR = 6 by omega) with e | e | e | e | e | e
  · rw [key (grp m 1) (grp m 2 ++ (grp m 3 ++ (grp m 4 ++ (grp m 5 ++ grp m 6)))) rfl (fun p hp => hlt p (by rwa [e])) (fun p hp => by
      simp only [List.mem_append] at hp
      rcases hp with hp | hp | hp | hp | hp <;> exact hB _ (by omega) p hp)]
    simp [flatG,grp_snoc,e]
  · rw [key (grp m 1 ++ grp m 2) (grp m 3 ++ (grp m 4 ++ (grp m 5 ++ grp m 6))) (by simp [flatG]) (fun p hp => by
      simp only [List.mem_append] at hp
      rcases hp with hp | hp
      · exact hA _ (by omega) p hp
      · exact hlt p (by rwa [e])) (fun p hp => by
      simp only [List.mem_append] at hp
      rcases hp with hp | hp | hp | hp <;> exact hB _ (by omega) p hp)]
    simp [flatG,grp_snoc,e]
  · rw [key (grp m 1 ++ (grp m 2 ++ grp m 3)) (grp m 4 ++ (grp m 5 ++ grp m 6)) (by simp [flatG]) (fun p hp => by
      simp only [List.mem_append] at hp
      rcases hp with hp | hp | hp
      · exact hA _ (by omega) p hp
      · exact hA _ (by omega) p hp
      · exact hlt p (by rwa [e])) (fun p hp => by
      simp only [List.mem_append] at hp
      rcases hp with hp | hp | hp <;> exact hB _ (by omega) p hp)]
    simp [flatG,grp_snoc,e]
  · rw [key (grp m 1 ++ (grp m 2 ++ (grp m 3 ++ grp m 4))) (grp m 5 ++ grp m 6) (by simp [flatG]) (fun p hp => by
      simp only [List.mem_append] at hp
      rcases hp with hp | hp | hp | hp
      · exact hA _ (by omega) p hp
      · exact hA _ (by omega) p hp
      · exact hA _ (by omega) p hp
      · exact hlt p (by rwa [e])) (fun p hp => by
      simp only [List.mem_append] at hp
      rcases hp with hp | hp <;> exact hB _ (by omega) p hp)]
    simp [flatG,grp_snoc,e]
  · rw [key (grp m 1 ++ (grp m 2 ++ (grp m 3 ++ (grp m 4 ++ grp m 5)))) (grp m 6) (by simp [flatG]) (fun p hp => by
      simp only [List.mem_append] at hp
      rcases hp with hp | hp | hp | hp | hp
      · exact hA _ (by omega) p hp
      · exact hA _ (by omega) p hp
      · exact hA _ (by omega) p hp
      · exact hA _ (by omega) p hp
      · exact hlt p (by rwa [e])) (fun p hp => hB _ (by omega) p hp)]
    simp [flatG,grp_snoc,e]
  · rw [key (flatG m) [] (by simp) (fun p hp => by
      simp only [flatG,List.mem_append] at hp
      rcases hp with hp | hp | hp | hp | hp | hp
      · exact hA _ (by omega) p hp
      · exact hA _ (by omega) p hp
      · exact hA _ (by omega) p hp
      · exact hA _ (by omega) p hp
      · exact hA _ (by omega) p hp
      · exact hlt p (by rwa [e])) (fun p hp => by cases hp)]
    simp [flatG,grp_snoc,e]
/-- a list that came of ops, one behind the other -/
inductive Came : List (List OpS) → List OpS → Prop
  | nil : Came emptyL []
  | put {Ls m} (h : Came Ls m) (hm : m.length < 400) (o : OpS) : Came (putL Ls o) (refPut m o).1
theorem Came.rel {Ls : List (List OpS)} {m : List OpS} (h : Came Ls m) : Rel Ls m := by
  induction h with
  | nil => exact rel_nil
  | put h hm o ih => exact (ih.put hm o).2
theorem Came.sort {Ls : List (List OpS)} {m : List OpS} (h : Came Ls m) : sortL m = flatG m := by
  induction h with
  | nil => rfl
  | @put Ls m h hm o ih =>
    have hr := h.rel
    have hr2 := (hr.put hm o).2
    by_cases hc : (refPut m o).1 = m
    · rw [hc]; exact ih
    · have hadd : (refPut m o).1 = m ++ [o] := by
        unfold refPut at hc ⊢
        split
        · rename_i h1; simp [h1] at hc
        · split
          · rename_i h1 h2; simp [h1,h2] at hc
          · split
            · rename_i h1 h2 h3; simp [h1,h2,h3] at hc
            · split
              · rename_i h1 h2 h3 h4; simp [h1,h2,h3,h4] at hc
              · rfl
      rw [hadd] at hr2 ⊢
      have hR := hr2.right o (by simp)
      obtain ⟨r1,r6,_⟩ := right_facts hR
      have hn := hr2.nu o.idR (grp m o.idR).length o (by rw [grp_snoc,if_pos rfl]; simp)
      rw [sortL,List.foldl_append,← sortL,ih,List.foldl_cons,List.foldl_nil]
      exact flat_ins hr r1 r6 hn
end Go.PV
/- Pools: who hears what it lacks has all. -/
namespace Go.PV
open Go.Proofs
set_option linter.unusedVariables false
set_option linter.unusedSimpArgs false
set_option maxHeartbeats 1000000

theorem six {α : Type} {l : List α} (h : l.length = 6) : ∃ a b c d e f, l = [a, b, c, d, e, f] := by
  match l,h with
  | [a,b,c,d,e,f],_ => exact ⟨a,b,c,d,e,f,rfl⟩
/-- of each replica a beginning -/
structure Sub (Ls Q : List (List OpS)) : Prop where
  len : Q.length = 6
  at' : ∀ k : Nat,k < 6 → ∃ t,Q.getD k [] = (Ls.getD k []).take t
theorem sub_empty (Ls : List (List OpS)) : Sub Ls emptyL := ⟨rfl, fun k hk => ⟨0, by
  simp only [emptyL,List.take_zero]
  match k,hk with
  | 0,_ => rfl
  | 1,_ => rfl
  | 2,_ => rfl
  | 3,_ => rfl
  | 4,_ => rfl
  | 5,_ => rfl⟩⟩
theorem Sub.tot_le {Ls Q : List (List OpS)} (h : Sub Ls Q) (hL : Ls.length = 6) : tot Q ≤ tot Ls := by
  obtain ⟨a0,a1,a2,a3,a4,a5,rfl⟩ := six hL
  obtain ⟨b0,b1,b2,b3,b4,b5,rfl⟩ := six h.len
  have k := fun (i : Nat) (hi : i < 6) => h.at' i hi
  obtain ⟨t0,h0⟩ := k 0 (by omega)
  obtain ⟨t1,h1⟩ := k 1 (by omega)
  obtain ⟨t2,h2⟩ := k 2 (by omega)
  obtain ⟨t3,h3⟩ := k 3 (by omega)
  obtain ⟨t4,h4⟩ := k 4 (by omega)
  obtain ⟨t5,h5⟩ := k 5 (by omega)
  simp only [List.getD_cons_zero,List.getD_cons_succ] at h0 h1 h2 h3 h4 h5
  subst h0 h1 h2 h3 h4 h5
  simp only [tot,List.map_cons,List.map_nil,List.sum_cons,List.sum_nil,List.length_take]
  omega
/-- an op of the list, or its copy -/
def Of (m : List OpS) (o : OpS) : Prop := ∃ p ∈ m, o = p ∨ o = p.own
theorem Of.facts {Ls : List (List OpS)} {m : List OpS} (h : Rel Ls m) {o : OpS} (ho : Of m o) : rightS o = true ∧ 1 ≤ o.idR ∧ o.idR ≤ 6 ∧ 1 ≤ o.idN ∧ (Ls.getD (o.idR - 1).toNat [])[(o.idN - 1).toNat]? = some o.own := by
  obtain ⟨p,hp,e⟩ := ho
  have hR := h.right p hp
  obtain ⟨r1,r6,_⟩ := right_facts hR
  have hT : tagB p.idR p.idN = true := by
    simp only [rightS,Bool.and_eq_true] at hR; exact hR.2.2.2.2.2.1
  have hn := tagB_iff.1 hT
  have hat := h.at (r := p.idR) (n := p.idN) hp (by simp [isB])
  have hg : (Ls.getD (p.idR - 1).toNat [])[(p.idN - 1).toNat]? = some p.own := by
    rw [h.gr _ (by omega),show (((p.idR - 1).toNat : Nat) : Int) + 1 = p.idR from by omega,List.getElem?_map,hat]; rfl
  rcases e with rfl | rfl
  · exact ⟨hR,r1,r6,hn.2.2.1,hg⟩
  · exact ⟨by rw [right_own]; exact hR,r1,r6,hn.2.2.1,by rw [own_own]; exact hg⟩
theorem Sub.put {Ls Q : List (List OpS)} {m : List OpS} (h : Rel Ls m) (hs : Sub Ls Q) (ht : tot Q < 400) {o : OpS} (ho : Of m o) : Sub Ls (putL Q o) := by
  obtain ⟨hR,r1,r6,n1,hg⟩ := ho.facts h
  rw [putL_eq ht,if_pos hR]
  refine ⟨by rw [List.length_set]; exact hs.len,fun k hk => ?_⟩
  by_cases hkr : (o.idR - 1).toNat = k
  · subst hkr
    rw [List.getD,List.getElem?_set_self (by rw [hs.len]; exact hk),Option.getD_some]
    obtain ⟨t,e⟩ := hs.at' _ hk
    unfold growO
    split
    · rename_i hn
      refine ⟨(o.idN - 1).toNat + 1, ?_⟩
      rw [List.take_add_one,hg,e]
      congr 1
      have hl : ((Q.getD (o.idR - 1).toNat []).length : Int) = o.idN - 1 := by omega
      rw [e,List.length_take] at hl
      have hlt := (List.getElem?_eq_some_iff.1 hg).1
      rw [show (o.idN - 1).toNat = t from by omega]
    · exact ⟨t,e⟩
  · obtain ⟨t,e⟩ := hs.at' k hk
    exact ⟨t,by rw [List.getD,List.getElem?_set_ne hkr]; exact e⟩
/-- what is lacking of a replica -/
def dropL (Ls Q : List (List OpS)) (k : Nat) : List OpS := (Ls.getD k []).drop (Q.getD k []).length
theorem filter_drop {p : OpS → Bool} : ∀ (l : List OpS) (c : Nat), (∀ j o, l[j]? = some o → p o = decide (c ≤ j)) → l.filter p = l.drop c
  | [],c,_ => by simp
  | a :: l,0,h => by
    have h0 := h 0 a rfl
    rw [List.filter_cons,if_pos (by simpa using h0),List.drop_zero]
    congr 1
    have := filter_drop l 0 (fun j o ho => by have := h (j + 1) o (by simpa using ho); simpa using this)
    simpa using this
  | a :: l,c + 1,h => by
    have h0 := h 0 a rfl
    rw [List.filter_cons,if_neg (by rw [h0]; simp),List.drop_succ_cons]
    exact filter_drop l c (fun j o ho => by have := h (j + 1) o (by simpa using ho); rw [this]; congr 1; simp)
theorem Rel.elem {Ls : List (List OpS)} {m : List OpS} (h : Rel Ls m) {k : Nat} (hk : k < 6) {j : Nat} {o : OpS} (ho : (Ls.getD k [])[j]? = some o) : o.idR = (k : Int) + 1 ∧ o.idN = (j : Int) + 1 ∧ o.own = o ∧ Of m o := by
  rw [h.gr k hk,List.getElem?_map] at ho
  obtain ⟨p,hp,rfl⟩ := Option.map_eq_some_iff.1 ho
  have hm := (List.mem_filter.1 (List.mem_of_getElem? hp))
  exact ⟨by have := grp_idR (List.mem_of_getElem? hp); exact this,h.nu _ j p hp,own_own p,p,hm.1, .inr rfl⟩
theorem part_drop {Ls Q : List (List OpS)} {m : List OpS} (h : Rel Ls m) (hQ : Q.length = 6) : partL Ls (haveL Q) 6 = (List.range 6).flatMap (dropL Ls Q) := by
  have hf : ∀ k : Nat,k < 6 → ((Ls.getD k []).filter (lackB (haveL Q))).map OpS.own = dropL Ls Q k := fun k hk => by
    rw [filter_drop _ (Q.getD k []).length (fun j o ho => by
      obtain ⟨e1,e2,_,hof⟩ := h.elem hk ho
      obtain ⟨hR,_⟩ := hof.facts h
      have hT : tagB o.idR o.idN = true := by
        simp only [rightS,Bool.and_eq_true] at hR; exact hR.2.2.2.2.2.1
      rw [lackB,hasB,hT,Bool.true_and,show (o.idR - 1).toNat = k from by omega,have_getD,e2]
      by_cases hc : (Q.getD k []).length ≤ j
      · rw [decide_eq_true hc,decide_eq_false (by omega)]; rfl
      · rw [decide_eq_false hc,decide_eq_true (by omega)]; rfl)]
    have : ∀ o ∈ (Ls.getD k []).drop (Q.getD k []).length,OpS.own o = o := fun o ho => by
      obtain ⟨j,hj⟩ := List.getElem?_of_mem (List.mem_of_mem_drop ho)
      exact (h.elem hk hj).2.2.1
    rw [List.map_congr_left this]; simp [dropL]
  obtain ⟨a0,a1,a2,a3,a4,a5,rfl⟩ := six h.len
  have e := fun k hk => hf k hk
  have e0 := e 0 (by omega)
  have e1 := e 1 (by omega)
  have e2 := e 2 (by omega)
  have e3 := e 3 (by omega)
  have e4 := e 4 (by omega)
  have e5 := e 5 (by omega)
  simp only [List.getD_cons_zero,List.getD_cons_succ] at e0 e1 e2 e3 e4 e5
  rw [show List.range 6 = [0,1,2,3,4,5] from rfl]
  simp only [partL,List.take_succ_cons,List.take_zero,List.flatten_cons,List.flatten_nil,List.filter_append,List.map_append,e0,e1,e2,e3,e4,e5,List.flatMap_cons,List.flatMap_nil,List.filter_nil,List.map_nil,List.append_nil]
theorem flat_head {α β : Type} {D : α → List β} {o : β} {rest : List β} : ∀ (I : List α), I.flatMap D = o :: rest → ∃ pre k post t, I = pre ++ k :: post ∧ (∀ i ∈ pre, D i = []) ∧ D k = o :: t ∧ rest = t ++ post.flatMap D
  | [],h => by simp at h
  | a :: I,h => by
    rw [List.flatMap_cons] at h
    cases hd : D a with
    | nil =>
      rw [hd,List.nil_append] at h
      obtain ⟨pre,k,post,t,rfl,h1,h2,h3⟩ := flat_head I h
      exact ⟨a :: pre,k,post,t,rfl,fun i hi => by rcases List.mem_cons.1 hi with rfl | hi; exact hd; exact h1 i hi,h2,h3⟩
    | cons b t =>
      rw [hd,List.cons_append] at h
      injection h with h1 h2
      exact ⟨[],a,I,t,rfl,fun i hi => (by cases hi),by rw [hd,h1],h2.symm⟩
/-- the first that is lacking, put -/
theorem head_put {Ls Q : List (List OpS)} {m : List OpS} (h : Rel Ls m) (hs : Sub Ls Q) (ht : tot Q < 400) {o : OpS} {rest : List OpS} (hX : partL Ls (haveL Q) 6 = o :: rest) :
    (putS Q o).1 = 0 ∧ Of m o ∧ Sub Ls (putL Q o) ∧ partL Ls (haveL (putL Q o)) 6 = rest := by
  rw [part_drop h hs.len] at hX
  obtain ⟨pre,k,post,t,hI,h1,h2,h3⟩ := flat_head _ hX
  have hk : k < 6 := by
    have : k ∈ List.range 6 := by rw [hI]; simp
    simpa using this
  have hnd : (pre ++ k :: post).Nodup := hI ▸ List.nodup_range
  have hoj : (Ls.getD k [])[(Q.getD k []).length]? = some o := by
    have : (dropL Ls Q k)[0]? = some o := by rw [h2]; rfl
    simpa [dropL] using this
  obtain ⟨e1,e2,e3,hof⟩ := h.elem hk hoj
  obtain ⟨hR,r1,r6,n1,hg⟩ := hof.facts h
  have hkr : (o.idR - 1).toNat = k := by omega
  have hfind : (findS Q o.idR o.idN).2 ≠ 0 := by
    rw [findS,if_neg (by rw [hasB,hkr,have_getD,Bool.and_eq_true,decide_eq_true_eq]; rintro ⟨_,hc⟩; omega)]; decide
  have hput : putS Q o = (0,Q.set k (Q.getD k [] ++ [o.own])) := by
    rw [putS_eq _ _ hR,if_neg hfind,hkr,if_neg (by simpa using e2),if_neg (tot_not ht)]
  have hsub := hs.put h ht hof
  refine ⟨by rw [hput],hof,hsub, ?_⟩
  rw [part_drop h hsub.len,putL,hput,hI,List.flatMap_append,List.flatMap_cons]
  have hD : ∀ i,i ≠ k → dropL Ls (Q.set k (Q.getD k [] ++ [o.own])) i = dropL Ls Q i := fun i hi => by
    simp only [dropL,List.getD,List.getElem?_set_ne (Ne.symm hi)]
  have hDk : dropL Ls (Q.set k (Q.getD k [] ++ [o.own])) k = t := by
    have : dropL Ls Q k = o :: t := h2
    simp only [dropL,List.getD] at this ⊢
    rw [List.getElem?_set_self (by rw [hs.len]; exact hk),Option.getD_some,List.length_append,List.length_singleton,← List.drop_drop,this]; rfl
  have hp : ∀ (l : List Nat),k ∉ l → l.flatMap (dropL Ls (Q.set k (Q.getD k [] ++ [o.own]))) = l.flatMap (dropL Ls Q) := fun l hl => by
    induction l with
    | nil => rfl
    | cons a l ih =>
      rw [List.flatMap_cons,List.flatMap_cons,ih (fun hc => hl (List.mem_cons_of_mem _ hc)),hD a (fun hc => hl (by rw [hc]; simp))]
  rw [List.nodup_append] at hnd
  obtain ⟨_,hn2,hn3⟩ := hnd
  rw [hp pre (fun hc => hn3 k hc k (by simp) rfl),hp post (List.nodup_cons.1 hn2).1,hDk,h3]
  have : pre.flatMap (dropL Ls Q) = [] := List.flatMap_eq_nil_iff.2 h1
  rw [this,List.nil_append]
theorem all_there {Ls Q : List (List OpS)} {m : List OpS} (h : Rel Ls m) (hs : Sub Ls Q) (hX : partL Ls (haveL Q) 6 = []) : Q = Ls := by
  rw [part_drop h hs.len,List.flatMap_eq_nil_iff] at hX
  have key : ∀ k : Nat,k < 6 → Q.getD k [] = Ls.getD k [] := fun k hk => by
    have h1 := hX k (by simpa using hk)
    obtain ⟨t,e⟩ := hs.at' k hk
    rw [dropL,List.drop_eq_nil_iff] at h1
    rw [e] at h1 ⊢
    rw [List.length_take] at h1
    exact List.take_of_length_le (by omega)
  apply List.ext_getElem?
  intro k
  rcases Nat.lt_or_ge k 6 with hk | hk
  · have := key k hk
    have h1 := hs.len
    have h2 := h.len
    simp only [List.getD,List.getElem?_eq_getElem (show k < Q.length by omega),List.getElem?_eq_getElem (show k < Ls.length by omega),Option.getD_some] at this ⊢
    rw [this]
  · rw [List.getElem?_eq_none (by have := hs.len; omega),List.getElem?_eq_none (by have := h.len; omega)]
theorem part_le {Ls : List (List OpS)} {m : List OpS} (h : Rel Ls m) (v : List Int) : (partL Ls v 6).length ≤ m.length := by
  rw [partL,List.length_map,List.take_of_length_le (by rw [h.len]; omega)]
  refine Nat.le_trans (List.length_filter_le _ _) ?_
  rw [List.length_flatten,← h.tt]; exact Nat.le_refl _
end Go.PV
/- punnetlaw26: Filled. -/
namespace Go.PV
open Go.Proofs
set_option linter.unusedVariables false
set_option linter.unusedSimpArgs false
set_option maxRecDepth 10000
set_option maxHeartbeats 1000000

theorem putVL_PS {m : List OpS} {y : V} (h : PS m y) (o : OpS) : PS (refPut m o).1 (putVL m y o) := by
  have key : (refPut m o).2 = 0 → (refPut m o).1 = m ++ [o] := by
    unfold refPut
    split
    · intro h; exact absurd h (by simp)
    · split
      · intro h; simp only at h; split at h <;> exact absurd h (by decide)
      · split
        · intro h; exact absurd h (by simp)
        · split
          · intro h; exact absurd h (by simp)
          · intro _; rfl
  have key2 : (refPut m o).2 ≠ 0 → (refPut m o).1 = m := by
    unfold refPut
    split
    · intro _; rfl
    · split
      · intro _; rfl
      · split
        · intro _; rfl
        · split
          · intro _; rfl
          · intro h; exact absurd rfl h
  unfold putVL
  split
  · rename_i h0; rw [key h0]; exact .inr ⟨false,rfl⟩
  · rename_i h0; rw [key2 h0]; exact h
theorem PS.bareT {l : List OpS} {c : V} (h : PS l c) (n : Int) : (V.tup [c, .int .i64 n]).bare = .tup [c, .int .i64 n] := by
  rcases h with ⟨rfl,rfl⟩ | ⟨ex,rfl⟩ <;> rfl
theorem PS.noPT {l : List OpS} {c : V} (h : PS l c) (n : Int) : (V.tup [c, .int .i64 n]).noP = true := by
  rcases h with ⟨rfl,rfl⟩ | ⟨ex,rfl⟩ <;> rfl
theorem refPut_mem {m : List OpS} {o p : OpS} (h : p ∈ (refPut m o).1) : p ∈ m ∨ p = o := by
  unfold refPut at h
  split at h
  · exact .inl h
  · split at h
    · exact .inl h
    · split at h
      · exact .inl h
      · split at h
        · exact .inl h
        · rcases List.mem_append.1 h with h | h
          · exact .inl h
          · exact .inr (List.mem_singleton.1 h)
theorem refPut_len (m : List OpS) (o : OpS) : (refPut m o).1.length ≤ m.length + 1 := by
  unfold refPut
  split
  · exact Nat.le_succ _
  · split
    · exact Nat.le_succ _
    · split
      · exact Nat.le_succ _
      · split
        · exact Nat.le_succ _
        · simp
/-- a call's end that hands one new block back -/
theorem Kend_retB {rs : List ResultVar} {R : V → List (List V) → Prop} {x : V} {s : St} {cs : List V} {rest : List (List V)} (hx : resOf Try.prog s rs = some x) (hh : s.heap = cs :: rest) (hok : okV 1 x = true) (hc : ∀ c ∈ cs, c.noP0 = true)
    (hR : R (x.keep s.own) [cs.map (V.keepC s.own)]) : Kend Try.prog rs 0 R .ret s :=
  ⟨.inr rfl,x,1,hx,Nat.zero_le _,by rw [hh]; simp, .inr (by
    rw [hh]; simp only [hok,Bool.true_and,List.take_succ_cons,List.take_zero,List.all_cons,List.all_nil,Bool.and_true,List.all_eq_true]
    exact fun c hcc => (renC_noP (ρ := []) (hc c hcc)).2 1),by rw [hh]; simpa using hR⟩
/-- what Filled hands back -/
structure Fill (Ls : List (List OpS)) (m : List OpS) (y : V) (ds : List V) : Prop where
  y : PS m y
  p : PCt Ls ds
  t : ds.flatMap V.tokC = []
  c : Came Ls m
  n : m.length ≤ 60
  d : OkLs Ls
  e : ∀ o ∈ m,o.dropsL.length ≤ 200
theorem c_punnet_punnetlaw26_Filled (l : List OpS) (x : V) (hx : PS l x) (hl : l.length ≤ 60) (hd : ∀ o ∈ l, o.dropsL.length ≤ 200) : VC Try.prog 36 [x] [] (fun r hh => ∃ Ls m y ds, r = .tup [.ptr 0 0, y, .bool true] ∧ hh = [ds] ∧ Fill Ls m y ds) := by
 refine VC_enter (nt := 40) (rs := [.tmp 2, .tmp 3, .tmp 4]) (ow := []) (m := 0) Try.func36 rfl (by rfl) rfl rfl (by simp) (by simp only [ownOf,List.flatMap_cons,List.flatMap_nil,hx.toks,List.append_nil]) rfl (fun n => ?_)
 simp only [zipT,Nat.zero_add]
 have hi := True.intro
 have hw := True.intro
 refine WC_seqR (fun N1 hN1 hD1 => ?_)
 simp only [sS,↓sT,Nat.reduceLT,Nat.reduceEqDiff,↓sO,↓WOps_g,sG,opV,loudV,cellsOf,strOp,evL,Nat.reduceAdd,Int.reduceBEq,Int.reduceBNe,hx.len,hi,hw,bs0,range_zero,List.all_nil,load15,opCells,List.drop_zero,ti3,ti52,ti49]
 refine hN1 _ ?_; try clear hN1 hD1 N1
 refine WC_seqR (fun N2 hN2 hD2 => ?_)
 refine WOps_callN c_new (by simp only [ev_func]) (by first | (simp only [evL,sS,↓sT,Nat.reduceLT,Nat.reduceEqDiff]; done) | (simp only [evL,sS,↓sT,Nat.reduceLT,Nat.reduceEqDiff]; rfl)) (fun c hc => by rw [newC_nil hc]; rfl) new_toks ?_
 intro n' hnn
 simp only [sS,↓sT,Nat.reduceLT,Nat.reduceEqDiff,↓sO,↓WOps_g,sG,opV,loudV,cellsOf,strOp,evL,Nat.reduceAdd,Int.reduceBEq,Int.reduceBNe,hx.len,hi,hw,bs0,range_zero,List.all_nil,load15,opCells,List.drop_zero,ti3,ti52,ti49]
 refine hN2 _ ?_; try clear hN2 hD2 N2
 refine WC_seqR (fun N3 hN3 hD3 => ?_)
 simp only [sS,↓sT,Nat.reduceLT,Nat.reduceEqDiff,↓sO,↓WOps_g,sG,opV,loudV,cellsOf,strOp,evL,Nat.reduceAdd,Int.reduceBEq,Int.reduceBNe,buildSliceV,ti52,hx.len,hi,hw,bs0,range_zero,List.all_nil,load15,opCells,List.drop_zero,ti3,ti49]
 refine hN3 _ ?_; try clear hN3 hD3 N3
 refine WC_seqN (fun N4 hN4 hD4 => ?_)
 refine WC_seqR (fun N5 hN5 hD5 => ?_)
 simp only [sS,↓sT,Nat.reduceLT,Nat.reduceEqDiff,↓sO,↓WOps_g,sG,opV,loudV,cellsOf,strOp,evL,Nat.reduceAdd,Int.reduceBEq,Int.reduceBNe,hx.len,hi,hw,bs0,range_zero,List.all_nil,load15,opCells,List.drop_zero,ti3,ti52,ti49]
 refine hN5 _ ?_; try clear hN5 hD5 N5
 refine WC_block ?_
 refine WC_loopG (σ := Nat) (fun t s => ∃ ps Ls m y cs ow nx,s = ⟨mkS 40 ps, [cs],ow,nx⟩ ∧ Has ps [(0,x),(5, .ptr 0 0),(6,y),(7, .int .i64 t)] ∧ t ≤ l.length ∧ PS m y ∧ Came Ls m ∧ Pool Ls cs ow t ∧ m.length ≤ t ∧ ∀ o ∈ m,o.dropsL.length ≤ 200) (fun t => l.length - t) 0 ?_ (fun t s hI => ?_)
 · exact ⟨_,emptyL, [],_,newC, [],_,rfl,⟨rfl,rfl,rfl,rfl,trivial⟩,Nat.zero_le _, .inr ⟨true,rfl⟩,Came.nil,Pool.new _,Nat.zero_le _,fun o ho => by cases ho⟩
 obtain ⟨ps,Ls,m,y,cs,ow,nx,rfl,hps,ht,hy,hC,hP,hm,hmd⟩ := hI
 refine WC_has hps ?_; clear hps ps
 refine WC_seqN (fun N6 hN6 hD6 => ?_)
 refine WC_seqR (fun N7 hN7 hD7 => ?_)
 simp only [sS,↓sT,Nat.reduceLT,Nat.reduceEqDiff,↓sO,↓WOps_g,sG,opV,loudV,cellsOf,strOp,evL,Nat.reduceAdd,Int.reduceBEq,Int.reduceBNe,ti52,hx.len,hi,hw,bs0,range_zero,List.all_nil,load15,opCells,List.drop_zero,ti3,ti49]
 refine hN7 _ ?_; try clear hN7 hD7 N7
 refine WC_condE ?_
 simp only [sS,↓sT,Nat.reduceLT,Nat.reduceEqDiff,↓stepC_bool]
 refine ⟨fun hb8 => ?_,fun hb8 => ?_⟩
 ·have ht2 : t < l.length := by have := of_decide_eq_true hb8; omega
  obtain ⟨o,ho⟩ : ∃ o,l[t]? = some o := ⟨_,List.getElem?_eq_getElem ht2⟩
  have hi := hx.ia ho
  have hw : IntKind.i64.wrap ((t : Int) + 1) = (t : Int) + 1 := wrapI (by omega) (by omega)
  have hod := hd o (List.mem_of_getElem? ho)
  have hrp := hC.rel.put (by omega) o
  have hy2 := putVL_PS hy o
  refine WC_skip ?_
  refine hN6 _ ?_; try clear hN6 hD6 N6
  refine WC_seqN (fun N9 hN9 hD9 => ?_)
  refine WC_block ?_
  refine WC_seqR (fun N10 hN10 hD10 => ?_)
  simp only [sS,↓sT,Nat.reduceLT,Nat.reduceEqDiff,↓sO,↓WOps_g,sG,opV,loudV,cellsOf,strOp,evL,Nat.reduceAdd,Int.reduceBEq,Int.reduceBNe,ti52,ti49,hx.len,hi,hw,bs0,range_zero,List.all_nil,load15,opCells,List.drop_zero,ti3,hb8]
  refine WOps_callP (c_punnet_punnetref26_Put m y hy o (by omega) (fun p hp => by have := hmd p hp; omega)) (by simp only [ev_func]) (by simp only [evL,sS,↓sT,Nat.reduceLT,Nat.reduceEqDiff]; rfl) (by first | rfl | (simp only [List.map,op_bare,hy.bare]; done) | (simp only [List.map,op_bare,hy.bare]; exact rfl)) (by first | rfl | simp [op_noP,hy.noP,hy2.noPT]) (by first | rfl | simp [op_noP,hy.noP,hy2.noPT]) (hy2.bareT _) ?_
  simp only [sS,↓sT,Nat.reduceLT,Nat.reduceEqDiff,↓sO,↓WOps_g,sG,opV,loudV,cellsOf,strOp,evL,Nat.reduceAdd,Int.reduceBEq,Int.reduceBNe,ti52,ti49,hx.len,hi,hw,bs0,range_zero,List.all_nil,load15,opCells,List.drop_zero,ti3,hb8]
  refine hN10 _ ?_; try clear hN10 hD10 N10
  refine WC_seqN (fun N11 hN11 hD11 => ?_)
  refine WC_seqR (fun N12 hN12 hD12 => ?_)
  simp only [sS,↓sT,Nat.reduceLT,Nat.reduceEqDiff,↓sO,↓WOps_g,sG,opV,loudV,cellsOf,strOp,evL,Nat.reduceAdd,Int.reduceBEq,Int.reduceBNe,ti52,ti49,hx.len,hi,hw,bs0,range_zero,List.all_nil,load15,opCells,List.drop_zero,ti3,hb8]
  refine WOps_put (b := 0) (o := o) hP (by omega) hod (by simp only [ev_func]) (by first | (simp only [evL,sS,↓sT,Nat.reduceLT,Nat.reduceEqDiff]; done) | (simp only [evL,sS,↓sT,Nat.reduceLT,Nat.reduceEqDiff]; rfl)) rfl (fun cs' ow' n' hP' => ?_)
  rw [hrp.1]
  simp only [sS,↓sT,Nat.reduceLT,Nat.reduceEqDiff,↓sO,↓WOps_g,sG,opV,loudV,cellsOf,strOp,evL,Nat.reduceAdd,Int.reduceBEq,Int.reduceBNe,ti52,ti49,hx.len,hi,hw,bs0,range_zero,List.all_nil,load15,opCells,List.drop_zero,ti3,hb8]
  refine hN12 _ ?_; try clear hN12 hD12 N12
  refine WC_condE ?_
  simp only [sS,↓sT,Nat.reduceLT,Nat.reduceEqDiff,↓stepC_bool,hb8,Int.reduceBEq,Int.reduceBNe,beq_self_eq_true,bne_self_eq_false]
  refine ⟨fun hb13 => ?_,fun hb13 => ?_⟩
  ·exact absurd hb13 (by simp)
  ·refine WC_skip ?_
   refine hN11 _ ?_; try clear hN11 hD11 N11
   refine WC_regN (fun N14 hN14 => ?_)
   simp only [sS,↓sT,Nat.reduceLT,Nat.reduceEqDiff,↓sO,↓WOps_g,sG,opV,loudV,cellsOf,strOp,evL,Nat.reduceAdd,Int.reduceBEq,Int.reduceBNe,hx.len,hi,hw,bs0,range_zero,List.all_nil,load15,opCells,List.drop_zero,ti3,ti52,ti49,hb8,hb13]
   refine hN14 _ ?_; try clear hN14 N14
   refine hN9 _ ?_; try clear hN9 hD9 N9
   refine WC_regN (fun N15 hN15 => ?_)
   simp only [sS,↓sT,Nat.reduceLT,Nat.reduceEqDiff,↓sO,↓WOps_g,sG,opV,loudV,cellsOf,strOp,evL,Nat.reduceAdd,Int.reduceBEq,Int.reduceBNe,hx.len,hi,hw,bs0,range_zero,List.all_nil,load15,opCells,List.drop_zero,ti3,ti52,ti49,hb8,hb13]
   refine hN15 _ ?_; try clear hN15 N15
   refine ⟨t + 1,⟨_,putL Ls o,(refPut m o).1,putVL m y o,cs',ow',_,rfl,⟨rfl,rfl,rfl,rfl,trivial⟩,ht2,hy2,Came.put hC (by omega) o,hP', ?_,fun p hp => ?_⟩,by omega⟩
   · have := refPut_len m o; omega
   · rcases refPut_mem hp with hp | rfl
     · exact hmd p hp
     · exact hod
 ·refine WC_exit ?_
  refine hN4 _ ?_; try clear hN4 hD4 N4
  refine WC_seqR (fun N16 hN16 hD16 => ?_)
  simp only [sS,↓sT,Nat.reduceLT,Nat.reduceEqDiff,↓sO,↓WOps_g,sG,opV,loudV,cellsOf,strOp,evL,Nat.reduceAdd,Int.reduceBEq,Int.reduceBNe,hx.len,hi,hw,bs0,range_zero,List.all_nil,load15,opCells,List.drop_zero,ti3,ti52,ti49,hb8]
  refine hN16 _ ?_; try clear hN16 hD16 N16
  refine WC_bare (b := 0) (cs := cs) rfl ?_
  refine WC_sub (ow' := []) (fun q hq => by cases hq) ?_
  refine WC_ret ?_; (try simp only [Exit.after,Exit.out]); refine Kend_retB (cs := cs.map V.bareC) (by first | (simp only [resOf,resL,resV,mkS_get,slots_get,cellsOf,sS,↓sT,Nat.reduceLT,Nat.reduceEqDiff]; done) | (simp only [resOf,resL,resV,mkS_get,slots_get,cellsOf,sS,↓sT,Nat.reduceLT,Nat.reduceEqDiff]; rfl)) rfl (by rcases hy with ⟨rfl,rfl⟩ | ⟨ex,rfl⟩ <;> rfl) hP.p.bareW.noP ?_
  clear hN6 hD6 N6
  refine ⟨Ls,m,y,cs.map V.bareC, ?_, ?_,⟨hy,hP.p.bareW,bareW_toks hP.p,hC,by omega,hP.d,hmd⟩⟩
  · rcases hy with ⟨rfl,rfl⟩ | ⟨ex,rfl⟩ <;> rfl
  · congr 1
    exact hP.p.bareW.keep (fun q hq => by rw [bareW_toks hP.p] at hq; cases hq)
section
variable {P : Program} {ops : Array Oper} {os : List Oper} {K : St → Prop} {s : St} {dst : Option Tmp} {ty : TypeId} {pos : String} {after : Array Edge}
theorem WOps_fill {f : Operand} {args : Array Operand} {ts : Array TypeId} {l : List OpS} {x : V} (hx : PS l x) (hl : l.length ≤ 60) (hd : ∀ o ∈ l, o.dropsL.length ≤ 200)
    (hf : ev s f = some (.func (.func 36) [])) (he : evL s args.toList = some [x])
    (k : ∀ Ls m y ds n',Fill Ls m y ds → s.next ≤ n' → WOps Try.prog ops os K (St.put ⟨s.slots,s.heap ++ [ds],s.own,n'⟩ dst (.tup [.ptr s.heap.length 0,y, .bool true]))) :
    WOps Try.prog ops (⟨dst, .call ⟨.value f,args,ts⟩,ty,pos,after,none⟩ :: os) K s := by
  simp only [WOps,WOp,WOp1]
  unfold WRun
  simp only [opV,loudV]
  have hxb : x.noP1 = true ∧ x.bare1 = x ∧ x.toks = [] := by rcases hx with ⟨rfl,rfl⟩ | ⟨ex,rfl⟩ <;> exact ⟨rfl,rfl,rfl⟩
  refine ⟨_, [],_,hf,he, .ref [] [x] [] _ (c_punnet_punnetlaw26_Filled l x hx hl hd) ?_ (by simp) trivial (fun q hq => ?_) trivial (fun h => absurd rfl h) ?_⟩
  · have := fitsL_bare (ρ := []) (ys := [x]) (by intro y hy; obtain rfl := List.mem_singleton.1 hy; exact hxb.1)
    simp only [List.map_cons,List.map_nil,hxb.2.1] at this
    exact this
  · simp only [ownOf,List.flatMap_cons,List.flatMap_nil,hxb.2.2,List.append_nil] at hq; cases hq
  rintro r h' n' ⟨Ls,m,y,ds,rfl,rfl,hF⟩ hn _
  have hyb : y.noP1 = true ∧ ren1 (rhoAfter s.heap.length [] 1) y = y := by
    rcases hF.y with ⟨rfl,rfl⟩ | ⟨ex,rfl⟩ <;> exact ⟨rfl,rfl⟩
  have e1 : ren (rhoAfter s.heap.length [] 1) (.tup [.ptr 0 0,y, .bool true]) = .tup [.ptr s.heap.length 0,y, .bool true] := by
    simp only [ren,List.map_cons,List.map_nil,hyb.2]
    simp [rhoAfter,ren1,renC,renP]
  have e2 : heapAfter s.heap [] [ds] = s.heap ++ [ds] := by simp [heapAfter,setAll,map_renC hF.p.noP]
  have e3 : ownAfter s.own (ownOf [x] []) (ownOf [.tup [.ptr 0 0,y, .bool true]] [ds]) = s.own := by
    have h1 : ownOf [x] [] = [] := by simp only [ownOf,List.flatMap_cons,List.flatMap_nil,hxb.2.2,List.append_nil]
    have h2 : ownOf [.tup [.ptr 0 0,y, .bool true]] [ds] = [] := by
      have : (V.tup [.ptr 0 0,y, .bool true]).toks = [] := by rcases hF.y with ⟨rfl,rfl⟩ | ⟨ex,rfl⟩ <;> rfl
      simp only [ownOf,List.flatMap_cons,List.flatMap_nil,this,hF.t,List.append_nil]
    rw [h1,h2]; simp [ownAfter]
  have e4 : [ds].length = 1 := rfl
  rw [e4,e1,e2,e3]
  exact k Ls m y ds n' hF hn
end
end Go.PV
/- punnetlaw26.PoolCatches: the walk. -/
namespace Go.PV
open Go.Proofs
set_option linter.unusedVariables false
set_option linter.unusedSimpArgs false
set_option maxRecDepth 10000
set_option maxHeartbeats 4000000

theorem vec_bare1L (v : List Int) (n : Int) : [vecV v, .int .i64 n].map V.bare1 = [vecV v, .int .i64 n] := by
  have h : (vecV v).bare1 = vecV v := vec_bare v
  simp only [List.map_cons,List.map_nil,h]; rfl
section
variable {ops : Array Oper} {os : List Oper} {K : St → Prop} {s : St} {dst : Option Tmp} {ty : TypeId} {pos : String} {after : Array Edge}
end
theorem flat_mem {m : List OpS} {o : OpS} (h : o ∈ flatG m) : o ∈ m := by
  simp only [flatG,List.mem_append] at h
  rcases h with h | h | h | h | h | h <;> exact (List.mem_filter.1 h).1
theorem of_drops {m : List OpS} (hd : ∀ o ∈ m, o.dropsL.length ≤ 200) {o : OpS} (h : Of m o) : o.dropsL.length ≤ 200 := by
  obtain ⟨p,hp,rfl | rfl⟩ := h
  · exact hd _ hp
  · rw [own_dropsL]; exact hd p hp
theorem Pool.sub {Ls Q : List (List OpS)} {m : List OpS} {es : List V} {ow : List (Nat × Nat)} {n : Nat} (h : Pool Q es ow n) (hr : Rel Ls m) (hs : Sub Ls Q) (hm : m.length ≤ 60) : Pool Q es ow 60 :=
  ⟨h.p,h.a,h.o,h.d,by have := hs.tot_le hr.len; have := hr.tt; omega⟩
theorem Pool.ow {Q : List (List OpS)} {es : List V} {ow ow' : List (Nat × Nat)} {n : Nat} (h : Pool Q es ow n) (hs : ∀ q ∈ ow, q ∈ ow') : Pool Q es ow' n := ⟨h.p, h.a, fun q hq => hs q (h.o q hq), h.d, h.t⟩
end Go.PV
