/- Pools: Put. -/
import Derived.Test.YtpgfcfojojemjaaT33
import Derived.Test.YtpgfcfojojemjaaT31
import Derived.Test.YtpgfcfojojemjaaPWc
namespace Go.PV
open Go.Proofs
set_option linter.unusedVariables false
set_option linter.unusedSimpArgs false
set_option maxRecDepth 10000
set_option maxHeartbeats 1000000

/-- the tokens of unlike cells are unlike; each slice has one -/
def Apart (cs : List V) : Prop := (∀ (i j : Nat) (c d : V) (p q : Nat × Nat), cs[i]? = some c → cs[j]? = some d → p ∈ c.tokC → q ∈ d.tokC → p.1 = q.1 → i = j) ∧ ∀ c ∈ cs, c = .nils ∨ ∃ sz l ex id, c = .slice sz l ex (some id)
theorem tup_toks (o : OpS) (c : Int) : (V.tup [opW o, .int .i64 c]).toks = [] := by
  have := op_toks o
  simp only [V.toks,List.flatMap_cons,List.flatMap_nil,List.append_nil] at this ⊢
  rw [show (opW o).cells.flatMap V.tokC = [] from this]; rfl
theorem tup_noP (o : OpS) (c : Int) : (V.tup [opW o, .int .i64 c]).noP = true := by
  have h1 : (opW o).noP1 = true := op_noP o
  simp only [V.noP,List.all_cons,List.all_nil,Bool.and_true,h1]; rfl
theorem back_own {own g r : List (Nat × Nat)} : ∀ q ∈ g, q ∈ ownAfter own g (r ++ g) := fun q hq => List.mem_append_left _ (List.mem_append_right _ hq)
/-- the tokens' numbers lie below the next one -/
theorem WC_lt {c : Code} {K : Exit → St → Prop} {sl : List V} {h : List (List V)} {ow : List (Nat × Nat)} {nx : Nat} (k : (∀ q ∈ ow, q.1 < nx) → WC Try.prog c K ⟨sl, h, ow, nx⟩) : WC Try.prog c K ⟨sl, h, ow, nx⟩ := by
  intro w0 G0 a w Q hc hQ
  refine k (fun q hq => ?_) w0 G0 a w Q hc hQ
  obtain ⟨G,hs,I,hd⟩ := hc
  obtain ⟨T,hT⟩ := I.own.mem q.1 q.2 hq
  have := (I.own.ok _ _ _ hT).2.2.1
  have e : G.nx = nx := I.nx
  omega
def putS (Ls : List (List OpS)) (o : OpS) : Int × List (List OpS) :=
  if rightS o = false then (5,Ls) else
  if (findS Ls o.idR o.idN).2 = 0 then (if sameO (findS Ls o.idR o.idN).1 o = true then 7 else 15,Ls) else
  if o.idN ≠ ((Ls.getD (o.idR - 1).toNat []).length : Int) + 1 then (17,Ls) else
  if (sumS (haveL Ls)).1 = 400 then (9,Ls) else (0,Ls.set (o.idR - 1).toNat (Ls.getD (o.idR - 1).toNat [] ++ [o.own]))
theorem putS_eq (Ls : List (List OpS)) (o : OpS) (hR : rightS o = true) : putS Ls o =
  if (findS Ls o.idR o.idN).2 = 0 then (if sameO (findS Ls o.idR o.idN).1 o = true then 7 else 15,Ls) else
  if o.idN ≠ ((Ls.getD (o.idR - 1).toNat []).length : Int) + 1 then (17,Ls) else
  if (sumS (haveL Ls)).1 = 400 then (9,Ls) else (0,Ls.set (o.idR - 1).toNat (Ls.getD (o.idR - 1).toNat [] ++ [o.own])) := by rw [putS,if_neg (by simp [hR])]
theorem find_drops {Ls : List (List OpS)} {cs : List V} (h : PCt Ls cs) (hd : ∀ l ∈ Ls, ∀ o ∈ l, o.drops.l.length ≤ maxApp) (r t : Int) : (findS Ls r t).1.drops.l.length ≤ maxApp := by
  unfold findS
  split
  · rename_i hh
    obtain ⟨_,_,_,l,c,k1,_,_,k4⟩ := has_att h hh
    show (cloneD _).l.length ≤ maxApp
    rw [cloneD_l]
    exact hd l (List.mem_of_getElem? k1) _ (List.mem_of_getElem? k4)
  · exact Nat.zero_le _
theorem right_facts {o : OpS} (h : rightS o = true) : 1 ≤ o.idR ∧ o.idR ≤ 6 ∧ o.drops.l.length ≤ 60 := by
  simp only [rightS,dropsB,Bool.and_eq_true,decide_eq_true_eq] at h
  obtain ⟨_,_,_,⟨h4,_⟩,_,h6,_⟩ := h
  have := tagB_iff.1 h6
  have h4' : (o.drops.l.length : Int) ≤ 60 := h4
  omega
theorem PT.len {l : List OpS} {c : V} (h : PT l c) : lenV Try.prog 52 c = some (.int .i64 l.length) := by
  rcases h with ⟨rfl,rfl⟩ | ⟨id,rfl⟩ <;> simp [lenV,ti52]
theorem PCt.size {Ls : List (List OpS)} {cs : List V} (h : PCt Ls cs) : cs.length = 6 := by
  obtain ⟨_,_,_,_,_,_,_,_,_,_,_,_,_,rfl,_⟩ := h; rfl
theorem wrL_one (cs : List V) (i : Nat) (x : V) : wrL cs i [x] = cs.set i x := by simp [wrL]
theorem op_clean (o : OpS) : (opW o).clean = true := by
  have : (dropsW o.drops).cleanC = true := by
    obtain ⟨l,v,h⟩ := o.drops
    rcases h with ⟨_,rfl⟩ | ⟨ex,rfl⟩ <;> rfl
  simp only [V.clean,op_cells,opCells,List.all_cons,List.all_nil,this]; rfl
theorem PCt.set {Ls : List (List OpS)} {cs : List V} (h : PCt Ls cs) {i : Nat} (hi : i < 6) {l : List OpS} {c : V} (hc : PT l c) : PCt (Ls.set i l) (cs.set i c) := by
  obtain ⟨l0,l1,l2,l3,l4,l5,c0,c1,c2,c3,c4,c5,rfl,rfl,h0,h1,h2,h3,h4,h5⟩ := h
  match i,hi with
  | 0,_ => exact ⟨_,_,_,_,_,_,_,_,_,_,_,_,rfl,rfl,hc,h1,h2,h3,h4,h5⟩
  | 1,_ => exact ⟨_,_,_,_,_,_,_,_,_,_,_,_,rfl,rfl,h0,hc,h2,h3,h4,h5⟩
  | 2,_ => exact ⟨_,_,_,_,_,_,_,_,_,_,_,_,rfl,rfl,h0,h1,hc,h3,h4,h5⟩
  | 3,_ => exact ⟨_,_,_,_,_,_,_,_,_,_,_,_,rfl,rfl,h0,h1,h2,hc,h4,h5⟩
  | 4,_ => exact ⟨_,_,_,_,_,_,_,_,_,_,_,_,rfl,rfl,h0,h1,h2,h3,hc,h5⟩
  | 5,_ => exact ⟨_,_,_,_,_,_,_,_,_,_,_,_,rfl,rfl,h0,h1,h2,h3,h4,hc⟩
  | i + 6,h => omega
theorem PT.tok {l : List OpS} {c : V} (h : PT l c) {q : Nat × Nat} (hq : q ∈ c.tokC) : q.2 = l.length ∧ c.tokC = [q] := by
  rcases h with ⟨rfl,rfl⟩ | ⟨tok,rfl⟩
  · simp [V.tokC] at hq
  · cases tok with
    | none => simp [V.tokC] at hq
    | some id =>
      simp only [V.tokC,List.mem_singleton,List.length_map] at hq ⊢
      subst hq; exact ⟨rfl,rfl⟩
theorem app_op {Ls : List (List OpS)} {cs : List V} {i : Nat} {l : List OpS} {c : V} {ow : List (Nat × Nat)} {nx : Nat} (h : PCt Ls cs) (ha : Apart cs) (hi : i < 6) (k2 : cs[i]? = some c) (k3 : PT l c)
    (how : ∀ q ∈ cs.flatMap V.tokC,q ∈ ow) (hlt : ∀ q ∈ cs.flatMap V.tokC,q.1 < nx) (x : OpS) (hl : l.length + 1 ≤ maxApp) :
    ∃ c' ow' nx',appendV (⟨.struct [(0,25),(2,25),(4,2),(5,9),(6,3),(7,9),(8,47),(11,2),(12,4),(13,9),(14,38)],15,176,some [.int .i64 0, .int .i64 0, .int .i64 0, .int .i64 0, .int .i64 0, .str [], .int .i64 0, .str [], .int .i64 0, .str [], .str [], .int .i64 0, .bool false, .str [], .nils]⟩ : TI) ow nx c [opW x] = some (c',ow',nx') ∧ (c'.cells = [c'] ∧ c'.isCell = true) ∧ PCt (Ls.set i (l ++ [x])) (cs.set i c') ∧ Apart (cs.set i c') ∧ (∀ q ∈ (cs.set i c').flatMap V.tokC,q ∈ ow') := by
  have hil : i < cs.length := (List.getElem?_eq_some_iff.1 k2).1
  have hmem : ∀ {j : Nat} {d : V} {q : Nat × Nat},cs[j]? = some d → q ∈ d.tokC → q ∈ cs.flatMap V.tokC := fun hd hq => List.mem_flatMap.2 ⟨_,List.mem_of_getElem? hd,hq⟩
  have key : ∀ (id : Nat) (ow' : List (Nat × Nat)),(∀ (j : Nat) (d : V) (q : Nat × Nat),cs[j]? = some d → q ∈ d.tokC → j ≠ i → q.1 ≠ id ∧ q ∈ ow') → (id,l.length + 1) ∈ ow' →
      PCt (Ls.set i (l ++ [x])) (cs.set i (.slice 15 ((l ++ [x]).map opW) false (some id))) ∧ Apart (cs.set i (.slice 15 ((l ++ [x]).map opW) false (some id))) ∧ (∀ q ∈ (cs.set i (.slice 15 ((l ++ [x]).map opW) false (some id))).flatMap V.tokC,q ∈ ow') := fun id ow' h1 h2 => by
    have hget : ∀ (j : Nat) (d : V),(cs.set i (.slice 15 ((l ++ [x]).map opW) false (some id)))[j]? = some d → (j = i ∧ d = .slice 15 ((l ++ [x]).map opW) false (some id)) ∨ (j ≠ i ∧ cs[j]? = some d) := fun j d hd => by
      rw [List.getElem?_set] at hd
      by_cases hj : i = j
      · subst hj
        rw [if_pos rfl,if_pos hil] at hd
        exact .inl ⟨rfl,(Option.some.inj hd).symm⟩
      · rw [if_neg hj] at hd
        exact .inr ⟨fun h => hj h.symm,hd⟩
    have htok : ∀ q ∈ (V.slice 15 ((l ++ [x]).map opW) false (some id)).tokC,q = (id,l.length + 1) := fun q hq => by simpa [V.tokC] using hq
    refine ⟨h.set hi (.inr ⟨some id,rfl⟩),⟨fun j k d e p q hd he hp hq hpq => ?_,fun d hd => ?_⟩,fun q hq => ?_⟩
    · rcases hget j d hd with ⟨rfl,rfl⟩ | ⟨hj,hd2⟩ <;> rcases hget k e he with ⟨rfl,rfl⟩ | ⟨hk,he2⟩
      · rfl
      · have := htok p hp
        subst this
        exact absurd hpq.symm (h1 k e q he2 hq hk).1
      · have := htok q hq
        subst this
        exact absurd hpq (h1 j d p hd2 hp hj).1
      · exact ha.1 j k d e p q hd2 he2 hp hq hpq
    · rcases List.mem_or_eq_of_mem_set hd with hd | rfl
      · exact ha.2 d hd
      · exact .inr ⟨_,_,_,_,rfl⟩
    · obtain ⟨d,hd,hq⟩ := List.mem_flatMap.1 hq
      obtain ⟨j,hj⟩ := List.getElem?_of_mem hd
      rcases hget j d hj with ⟨rfl,rfl⟩ | ⟨hne,hj⟩
      · rw [htok q hq]; exact h2
      · exact (h1 j d q hj hq hne).2
  have k4 := ha.2 c (List.mem_of_getElem? k2)
  rcases k3 with ⟨rfl,rfl⟩ | ⟨tok,rfl⟩
  · refine ⟨_,_,_,by simp only [appendV,List.length_cons,List.length_nil]; rw [if_pos (by simpa using hl)]; rfl,⟨rfl,rfl⟩, ?_⟩
    exact key nx _ (fun j d q hd hq _ => ⟨fun h => by have := hlt q (hmem hd hq); omega,List.mem_cons_of_mem _ (how q (hmem hd hq))⟩) (by simp)
  · obtain ⟨id,rfl⟩ : ∃ id,tok = some id := by
      rcases k4 with h | ⟨_,_,_,id,h⟩
      · cases h
      · exact ⟨id,by cases h; rfl⟩
    have hin : (id,(l.map opW).length) ∈ ow := how _ (hmem k2 (by simp [V.tokC]))
    refine ⟨_,_,_,by simp only [appendV,List.length_map,List.length_cons,List.length_nil]; rw [if_pos (by simpa using hl)]; simp at hin; simp [hin]; exact ⟨rfl,rfl,rfl⟩,⟨rfl,rfl⟩, ?_⟩
    have := key id ((id,l.length + 1) :: ow.filter (fun q => q.1 != id)) (fun j d q hd hq hne => by
      have hn : q.1 ≠ id := fun he => hne (ha.1 j i d _ q (id,(l.map opW).length) hd k2 hq (by simp [V.tokC]) he)
      exact ⟨hn,List.mem_cons_of_mem _ (List.mem_filter.2 ⟨how q (hmem hd hq),by simpa using hn⟩)⟩) (by simp)
    simpa using this
theorem h__punnet_pool_Pool_Put (Ls : List (List OpS)) (cs : List V) (h : PCt Ls cs) (ha : Apart cs) (o : OpS) (hR : rightS o = true) (hL : o.dropsL.length ≤ 4611686018427387904) (hd : ∀ l ∈ Ls, ∀ o ∈ l, o.drops.l.length ≤ maxApp) (hB : ∀ l ∈ Ls, l.length ≤ 400) : VC Try.prog 30 [.ptr 0 0, opW o] [cs] (fun r hh => r = .int .i64 (putS Ls o).1 ∧ ∃ cs', hh = [cs'] ∧ PCt (putS Ls o).2 cs' ∧ Apart cs') := by
 refine VC_enter (nt := 60) (rs := [.tmp 4]) (ow := cs.flatMap V.tokC) (m := 1) Try.func30 rfl (by rfl) rfl rfl (by simp) (by simp only [ownOf,List.flatMap_cons,List.flatMap_nil,op_toks,List.append_nil]; rfl) rfl (fun n => ?_)
 simp only [zipT,Nat.zero_add]
 refine WC_lt (fun hlt => ?_)
 have happ := True.intro
 have hc1 := True.intro
 have hc2 := True.intro
 have cR := c_punnet_op_Right o hL
 rw [hR] at cR
 have hspec := putS_eq Ls o hR
 have hW := find_drops h hd o.idR o.idN
 obtain ⟨hr1,hr6,hr60⟩ := right_facts hR
 have hDr : o.drops.l.length ≤ maxApp := by unfold maxApp; omega
 have hi6 : (o.idR - 1).toNat < 6 := by omega
 obtain ⟨l,c,k1,k2,k3⟩ := h.get hi6
 have hgl : Ls.getD (o.idR - 1).toNat [] = l := by simp only [List.getD,k1,Option.getD_some]
 rw [hgl] at hspec
 have hI1 : IntKind.i64.wrap (o.idR - 1) = o.idR - 1 := wrapI (by omega) (by omega)
 have hI2 : indexAddrV Try.prog 80 (.ptr 0 0) (.int .i64 (o.idR - 1)) = some (.ptr 0 (o.idR - 1).toNat) := by
   simp only [indexAddrV,ti80,ti52]
   rw [if_pos (by omega),Nat.mul_one,Nat.zero_add]
 generalize (o.idR - 1).toNat = i at hi6 k1 k2 hI2 hspec
 have hI3 : loadV (⟨.slice 49,1,24,some [.nils]⟩ : TI) (cs.drop i) = some c := by
   show (cs.drop i).head? = some c
   rw [List.head?_drop,k2]
 have hI4 : lenV Try.prog 52 c = some (.int .i64 l.length) := k3.len
 have hsz : cs.length = 6 := h.size
 have hi5 : i ≤ 5 := by omega
 have hl4 : l.length ≤ 400 := hB l (List.mem_of_getElem? k1)
 have hI6 : IntKind.i64.wrap ((l.length : Int) + 1) = (l.length : Int) + 1 := wrapI (by omega) (by omega)
 refine WC_seqR (fun N1 hN1 hD1 => ?_)
 simp only [sS,↓sT,Nat.reduceLT,Nat.reduceEqDiff,↓sO,↓WOps_g,sG,opV,loudV,cellsOf,strOp,evL,Nat.reduceAdd,Int.reduceBEq,Int.reduceBNe,happ,hc1,hc2,hi5,hI6,wrL_one,wr15,range_one,op_clean,op_len,Option.isSome_some,Nat.reducePow,Nat.reduceLeDiff,TD.intK?,elemsV,hI1,hI2,hI3,hI4,hsz,op_cells,opCells,List.all_cons,List.all_nil,icell_int,icell_str,icell_bool,dropsW_isC,Bool.and_self,load_slice,load_int,load_str,load_bool,tag_load2,load15,int_load,List.drop_zero,Nat.le_refl]
 refine hN1 _ ?_; try clear hN1 hD1 N1
 refine WC_seqN (fun N2 hN2 hD2 => ?_)
 refine WC_seqR (fun N3 hN3 hD3 => ?_)
 simp only [sS,↓sT,Nat.reduceLT,Nat.reduceEqDiff,↓sO,↓WOps_g,sG,opV,loudV,cellsOf,strOp,evL,Nat.reduceAdd,Int.reduceBEq,Int.reduceBNe,happ,hc1,hc2,hi5,hI6,wrL_one,wr15,range_one,op_clean,op_len,Option.isSome_some,Nat.reducePow,Nat.reduceLeDiff,TD.intK?,elemsV,hI1,hI2,hI3,hI4,hsz,op_cells,opCells,List.all_cons,List.all_nil,icell_int,icell_str,icell_bool,dropsW_isC,Bool.and_self,load_slice,load_int,load_str,load_bool,tag_load2,load15,int_load,List.drop_zero,Nat.le_refl]
 refine hN3 _ ?_; try clear hN3 hD3 N3
 refine WC_condE ?_
 simp only [sS,↓sT,Nat.reduceLT,Nat.reduceEqDiff,↓stepC_bool]
 refine ⟨fun hb4 => ?_,fun hb4 => ?_⟩
 ·refine WC_seqR (fun N5 hN5 hD5 => ?_)
  simp only [sS,↓sT,Nat.reduceLT,Nat.reduceEqDiff,↓sO,↓WOps_g,sG,opV,loudV,cellsOf,strOp,evL,Nat.reduceAdd,Int.reduceBEq,Int.reduceBNe,happ,hc1,hc2,hi5,hI6,wrL_one,wr15,range_one,op_clean,op_len,Option.isSome_some,Nat.reducePow,Nat.reduceLeDiff,TD.intK?,elemsV,hI1,hI2,hI3,hI4,hsz,op_cells,opCells,List.all_cons,List.all_nil,icell_int,icell_str,icell_bool,dropsW_isC,Bool.and_self,load_slice,load_int,load_str,load_bool,tag_load2,load15,int_load,List.drop_zero,Nat.le_refl,hb4]
  refine hN5 _ ?_; try clear hN5 hD5 N5
  refine WC_ret ?_; (try simp only [Exit.after,Exit.out]); refine Kend_ret1 (by simp only [resOf,resL,resV,mkS_get,slots_get,cellsOf,op_load,List.getElem?_cons_zero,List.getElem?_cons_succ,List.drop_zero,ti49,sS,↓sT,Nat.reduceLT,Nat.reduceEqDiff]; rfl) rfl (by first | rfl | (simp only [op_load,List.getElem?_cons_zero,List.getElem?_cons_succ,List.drop_zero,ti49]; done)) (by first | exact h.noP | exact hP.noP) ?_
  clear hN2 hD2 N2
  first
  | (cases hb4; done)
  | (cases hb8; done)
  | (suffices hp : putS Ls o = (0,Ls.set i (l ++ [o.own])) by (rw [hp]; exact ⟨rfl,_,by rw [hP.keep hO],hP,hA⟩)
     rw [hspec]; clear hspec cR happ hP hA hO how2 hlt hI1 hI2 hI3 hI4 hI6 h ha hd hB hnn
     simp_all)
  | (suffices hp : putS Ls o = (7,Ls) by (rw [hp]; exact ⟨rfl,cs,by rw [h.keep how2],h,ha⟩)
     rw [hspec]; clear hspec cR happ hP hA hO how2 hlt hI1 hI2 hI3 hI4 hI6 h ha hd hB hnn
     simp_all; done)
  | (suffices hp : putS Ls o = (15,Ls) by (rw [hp]; exact ⟨rfl,cs,by rw [h.keep how2],h,ha⟩)
     rw [hspec]; clear hspec cR happ hP hA hO how2 hlt hI1 hI2 hI3 hI4 hI6 h ha hd hB hnn
     simp_all; done)
  | (suffices hp : putS Ls o = (17,Ls) by (rw [hp]; exact ⟨rfl,cs,by rw [h.keep how2],h,ha⟩)
     rw [hspec]; clear hspec cR happ hP hA hO how2 hlt hI1 hI2 hI3 hI4 hI6 h ha hd hB hnn
     simp_all; done)
  | (suffices hp : putS Ls o = (9,Ls) by (rw [hp]; exact ⟨rfl,cs,by rw [h.keep how2],h,ha⟩)
     rw [hspec]; clear hspec cR happ hP hA hO how2 hlt hI1 hI2 hI3 hI4 hI6 h ha hd hB hnn
     simp_all; done)
 ·refine WC_skip ?_
  refine hN2 _ ?_; try clear hN2 hD2 N2
  refine WC_seqN (fun N6 hN6 hD6 => ?_)
  refine WC_seqR (fun N7 hN7 hD7 => ?_)
  simp only [sS,↓sT,Nat.reduceLT,Nat.reduceEqDiff,↓sO,↓WOps_g,sG,opV,loudV,cellsOf,strOp,evL,Nat.reduceAdd,Int.reduceBEq,Int.reduceBNe,ti49,happ,hc1,hc2,hi5,hI6,wrL_one,wr15,range_one,op_clean,op_len,Option.isSome_some,Nat.reducePow,Nat.reduceLeDiff,TD.intK?,elemsV,hI1,hI2,hI3,hI4,hsz,op_cells,opCells,List.all_cons,List.all_nil,icell_int,icell_str,icell_bool,dropsW_isC,Bool.and_self,load_slice,load_int,load_str,load_bool,tag_load2,load15,int_load,List.drop_zero,Nat.le_refl,hb4]
  refine WOps_callP cR (by simp only [ev_func]) (by simp only [evL,sS,↓sT,Nat.reduceLT,Nat.reduceEqDiff]; rfl) (by first | rfl | (simp only [List.map,op_bare]; done) | (simp only [List.map,op_bare]; exact rfl)) (by first | rfl | simp [op_noP]) (by first | rfl | simp [op_noP]) (by first | exact op_bare _ | rfl) ?_
  simp only [sS,↓sT,Nat.reduceLT,Nat.reduceEqDiff,↓sO,↓WOps_g,sG,opV,loudV,cellsOf,strOp,evL,Nat.reduceAdd,Int.reduceBEq,Int.reduceBNe,ti49,happ,hc1,hc2,hi5,hI6,wrL_one,wr15,range_one,op_clean,op_len,Option.isSome_some,Nat.reducePow,Nat.reduceLeDiff,TD.intK?,elemsV,hI1,hI2,hI3,hI4,hsz,op_cells,opCells,List.all_cons,List.all_nil,icell_int,icell_str,icell_bool,dropsW_isC,Bool.and_self,load_slice,load_int,load_str,load_bool,tag_load2,load15,int_load,List.drop_zero,Nat.le_refl,hb4]
  refine hN7 _ ?_; try clear hN7 hD7 N7
  refine WC_condE ?_
  simp only [sS,↓sT,Nat.reduceLT,Nat.reduceEqDiff,↓stepC_bool,hb4,Int.reduceBEq,Int.reduceBNe,beq_self_eq_true,bne_self_eq_false]
  refine ⟨fun hb8 => ?_,fun hb8 => ?_⟩
  ·refine WC_seqR (fun N9 hN9 hD9 => ?_)
   simp only [sS,↓sT,Nat.reduceLT,Nat.reduceEqDiff,↓sO,↓WOps_g,sG,opV,loudV,cellsOf,strOp,evL,Nat.reduceAdd,Int.reduceBEq,Int.reduceBNe,happ,hc1,hc2,hi5,hI6,wrL_one,wr15,range_one,op_clean,op_len,Option.isSome_some,Nat.reducePow,Nat.reduceLeDiff,TD.intK?,elemsV,hI1,hI2,hI3,hI4,hsz,op_cells,opCells,List.all_cons,List.all_nil,icell_int,icell_str,icell_bool,dropsW_isC,Bool.and_self,load_slice,load_int,load_str,load_bool,tag_load2,load15,int_load,List.drop_zero,Nat.le_refl,hb4,hb8]
   refine hN9 _ ?_; try clear hN9 hD9 N9
   refine WC_ret ?_; (try simp only [Exit.after,Exit.out]); refine Kend_ret1 (by simp only [resOf,resL,resV,mkS_get,slots_get,cellsOf,op_load,List.getElem?_cons_zero,List.getElem?_cons_succ,List.drop_zero,ti49,sS,↓sT,Nat.reduceLT,Nat.reduceEqDiff]; rfl) rfl (by first | rfl | (simp only [op_load,List.getElem?_cons_zero,List.getElem?_cons_succ,List.drop_zero,ti49]; done)) (by first | exact h.noP | exact hP.noP) ?_
   clear hN6 hD6 N6
   first
   | (cases hb4; done)
   | (cases hb8; done)
   | (suffices hp : putS Ls o = (0,Ls.set i (l ++ [o.own])) by (rw [hp]; exact ⟨rfl,_,by rw [hP.keep hO],hP,hA⟩)
      rw [hspec]; clear hspec cR happ hP hA hO how2 hlt hI1 hI2 hI3 hI4 hI6 h ha hd hB hnn
      simp_all)
   | (suffices hp : putS Ls o = (7,Ls) by (rw [hp]; exact ⟨rfl,cs,by rw [h.keep how2],h,ha⟩)
      rw [hspec]; clear hspec cR happ hP hA hO how2 hlt hI1 hI2 hI3 hI4 hI6 h ha hd hB hnn
      simp_all; done)
   | (suffices hp : putS Ls o = (15,Ls) by (rw [hp]; exact ⟨rfl,cs,by rw [h.keep how2],h,ha⟩)
      rw [hspec]; clear hspec cR happ hP hA hO how2 hlt hI1 hI2 hI3 hI4 hI6 h ha hd hB hnn
      simp_all; done)
   | (suffices hp : putS Ls o = (17,Ls) by (rw [hp]; exact ⟨rfl,cs,by rw [h.keep how2],h,ha⟩)
      rw [hspec]; clear hspec cR happ hP hA hO how2 hlt hI1 hI2 hI3 hI4 hI6 h ha hd hB hnn
      simp_all; done)
   | (suffices hp : putS Ls o = (9,Ls) by (rw [hp]; exact ⟨rfl,cs,by rw [h.keep how2],h,ha⟩)
      rw [hspec]; clear hspec cR happ hP hA hO how2 hlt hI1 hI2 hI3 hI4 hI6 h ha hd hB hnn
      simp_all; done)
  ·refine WC_skip ?_
   refine hN6 _ ?_; try clear hN6 hD6 N6
   refine WC_seqR (fun N10 hN10 hD10 => ?_)
   simp only [sS,↓sT,Nat.reduceLT,Nat.reduceEqDiff,↓sO,↓WOps_g,sG,opV,loudV,cellsOf,strOp,evL,Nat.reduceAdd,Int.reduceBEq,Int.reduceBNe,fS49,ti25,ti49,happ,hc1,hc2,hi5,hI6,wrL_one,wr15,range_one,op_clean,op_len,Option.isSome_some,Nat.reducePow,Nat.reduceLeDiff,TD.intK?,elemsV,hI1,hI2,hI3,hI4,hsz,op_cells,opCells,List.all_cons,List.all_nil,icell_int,icell_str,icell_bool,dropsW_isC,Bool.and_self,load_slice,load_int,load_str,load_bool,tag_load2,load15,int_load,List.drop_zero,Nat.le_refl,hb4,hb8]
   refine WOps_callH (b := 0) (o := 0) (ys := [tagV o.idR o.idN]) (cs := cs) (h__punnet_pool_Pool_Find Ls cs h o.idR o.idN hd) (by simp only [ev_func]) (by first | (simp only [evL,sS,↓sT,Nat.reduceLT,Nat.reduceEqDiff]; done) | (simp only [evL,sS,↓sT,Nat.reduceLT,Nat.reduceEqDiff]; rfl)) rfl (by intro y hy; obtain rfl := List.mem_singleton.1 hy; rfl) (fun c hc => by obtain ⟨l,_,hl⟩ := h.mem hc; exact ⟨hl.facts.1,hl.facts.2.1⟩) (fun q hq => hq) ?_
   rintro rr h' n' ⟨rfl,rfl⟩ hnn
   refine ⟨cs,rfl,h.noP,tup_noP _ _, ?_⟩
   rw [tup_toks,List.nil_append]
   have how2 := @back_own (cs.flatMap V.tokC) (cs.flatMap V.tokC) []
   rw [List.nil_append] at how2
   generalize ownAfter (cs.flatMap V.tokC) (cs.flatMap V.tokC) (cs.flatMap V.tokC) = ow2 at how2 ⊢
   obtain ⟨c',ow3,n3,happ,⟨hc1,hc2⟩,hP,hA,hO⟩ := app_op (Ls := Ls) (nx := n') h ha hi6 k2 k3 how2 (fun q hq => Nat.lt_of_lt_of_le (hlt q hq) hnn) o.own (by have := hB l (List.mem_of_getElem? k1); unfold maxApp; omega)
   generalize findS Ls o.idR o.idN = fs at hspec hW ⊢
   obtain ⟨w,e⟩ := fs
   simp only at hspec hW
   simp only [sS,↓sT,Nat.reduceLT,Nat.reduceEqDiff,↓sO,↓WOps_g,sG,opV,loudV,cellsOf,strOp,evL,Nat.reduceAdd,Int.reduceBEq,Int.reduceBNe,fS49,ti25,ti49,happ,hc1,hc2,hi5,hI6,wrL_one,wr15,range_one,op_clean,op_len,Option.isSome_some,Nat.reducePow,Nat.reduceLeDiff,TD.intK?,elemsV,hI1,hI2,hI3,hI4,hsz,op_cells,opCells,List.all_cons,List.all_nil,icell_int,icell_str,icell_bool,dropsW_isC,Bool.and_self,load_slice,load_int,load_str,load_bool,tag_load2,load15,int_load,List.drop_zero,Nat.le_refl,hb4,hb8]
   refine hN10 _ ?_; try clear hN10 hD10 N10
   refine WC_seqN (fun N11 hN11 hD11 => ?_)
   refine WC_block ?_
   refine WC_seqR (fun N12 hN12 hD12 => ?_)
   simp only [sS,↓sT,Nat.reduceLT,Nat.reduceEqDiff,↓sO,↓WOps_g,sG,opV,loudV,cellsOf,strOp,evL,Nat.reduceAdd,Int.reduceBEq,Int.reduceBNe,ti49,happ,hc1,hc2,hi5,hI6,wrL_one,wr15,range_one,op_clean,op_len,Option.isSome_some,Nat.reducePow,Nat.reduceLeDiff,TD.intK?,elemsV,hI1,hI2,hI3,hI4,hsz,op_cells,opCells,List.all_cons,List.all_nil,icell_int,icell_str,icell_bool,dropsW_isC,Bool.and_self,load_slice,load_int,load_str,load_bool,tag_load2,load15,int_load,List.drop_zero,Nat.le_refl,hb4,hb8]
   refine stepB_T (fun hg12_2 => ?_) (fun hg12_2 => ?_)
   ·have ehg12_2 := eq_of_beq hg12_2
    simp only [sS,↓sT,Nat.reduceLT,Nat.reduceEqDiff,↓sO,↓WOps_g,sG,opV,loudV,cellsOf,strOp,evL,Nat.reduceAdd,Int.reduceBEq,Int.reduceBNe,ti49,happ,hc1,hc2,hi5,hI6,wrL_one,wr15,range_one,op_clean,op_len,Option.isSome_some,Nat.reducePow,Nat.reduceLeDiff,TD.intK?,elemsV,hI1,hI2,hI3,hI4,hsz,op_cells,opCells,List.all_cons,List.all_nil,icell_int,icell_str,icell_bool,dropsW_isC,Bool.and_self,load_slice,load_int,load_str,load_bool,tag_load2,load15,int_load,List.drop_zero,Nat.le_refl,hb4,hb8,ehg12_2]
    refine WOps_callP (c_punnet_op_Same w o (by show w.drops.l.length ≤ _; unfold maxApp at hW; omega)) (by simp only [ev_func]) (by simp only [evL,sS,↓sT,Nat.reduceLT,Nat.reduceEqDiff]; rfl) (by first | rfl | (simp only [List.map,op_bare]; done) | (simp only [List.map,op_bare]; exact rfl)) (by first | rfl | simp [op_noP]) (by first | rfl | simp [op_noP]) (by first | exact op_bare _ | rfl) ?_
    simp only [sS,↓sT,Nat.reduceLT,Nat.reduceEqDiff,↓sO,↓WOps_g,sG,opV,loudV,cellsOf,strOp,evL,Nat.reduceAdd,Int.reduceBEq,Int.reduceBNe,ti49,happ,hc1,hc2,hi5,hI6,wrL_one,wr15,range_one,op_clean,op_len,Option.isSome_some,Nat.reducePow,Nat.reduceLeDiff,TD.intK?,elemsV,hI1,hI2,hI3,hI4,hsz,op_cells,opCells,List.all_cons,List.all_nil,icell_int,icell_str,icell_bool,dropsW_isC,Bool.and_self,load_slice,load_int,load_str,load_bool,tag_load2,load15,int_load,List.drop_zero,Nat.le_refl,hb4,hb8,ehg12_2]
    refine hN12 _ ?_; try clear hN12 hD12 N12
    refine WC_condE ?_
    simp only [sS,↓sT,Nat.reduceLT,Nat.reduceEqDiff,↓stepC_bool,hb4,hb8,ehg12_2,Int.reduceBEq,Int.reduceBNe,beq_self_eq_true,bne_self_eq_false]
    refine ⟨fun hb13 => ?_,fun hb13 => ?_⟩
    ·refine WC_seqR (fun N14 hN14 hD14 => ?_)
     simp only [sS,↓sT,Nat.reduceLT,Nat.reduceEqDiff,↓sO,↓WOps_g,sG,opV,loudV,cellsOf,strOp,evL,Nat.reduceAdd,Int.reduceBEq,Int.reduceBNe,happ,hc1,hc2,hi5,hI6,wrL_one,wr15,range_one,op_clean,op_len,Option.isSome_some,Nat.reducePow,Nat.reduceLeDiff,TD.intK?,elemsV,hI1,hI2,hI3,hI4,hsz,op_cells,opCells,List.all_cons,List.all_nil,icell_int,icell_str,icell_bool,dropsW_isC,Bool.and_self,load_slice,load_int,load_str,load_bool,tag_load2,load15,int_load,List.drop_zero,Nat.le_refl,hb4,hb8,ehg12_2,hb13]
     refine hN14 _ ?_; try clear hN14 hD14 N14
     refine WC_ret ?_; (try simp only [Exit.after,Exit.out]); refine Kend_ret1 (by simp only [resOf,resL,resV,mkS_get,slots_get,cellsOf,op_load,List.getElem?_cons_zero,List.getElem?_cons_succ,List.drop_zero,ti49,sS,↓sT,Nat.reduceLT,Nat.reduceEqDiff]; rfl) rfl (by first | rfl | (simp only [op_load,List.getElem?_cons_zero,List.getElem?_cons_succ,List.drop_zero,ti49]; done)) (by first | exact h.noP | exact hP.noP) ?_
     clear hN11 hD11 N11
     first
     | (cases hb4; done)
     | (cases hb8; done)
     | (suffices hp : putS Ls o = (0,Ls.set i (l ++ [o.own])) by (rw [hp]; exact ⟨rfl,_,by rw [hP.keep hO],hP,hA⟩)
        rw [hspec]; clear hspec cR happ hP hA hO how2 hlt hI1 hI2 hI3 hI4 hI6 h ha hd hB hnn
        simp_all)
     | (suffices hp : putS Ls o = (7,Ls) by (rw [hp]; exact ⟨rfl,cs,by rw [h.keep how2],h,ha⟩)
        rw [hspec]; clear hspec cR happ hP hA hO how2 hlt hI1 hI2 hI3 hI4 hI6 h ha hd hB hnn
        simp_all; done)
     | (suffices hp : putS Ls o = (15,Ls) by (rw [hp]; exact ⟨rfl,cs,by rw [h.keep how2],h,ha⟩)
        rw [hspec]; clear hspec cR happ hP hA hO how2 hlt hI1 hI2 hI3 hI4 hI6 h ha hd hB hnn
        simp_all; done)
     | (suffices hp : putS Ls o = (17,Ls) by (rw [hp]; exact ⟨rfl,cs,by rw [h.keep how2],h,ha⟩)
        rw [hspec]; clear hspec cR happ hP hA hO how2 hlt hI1 hI2 hI3 hI4 hI6 h ha hd hB hnn
        simp_all; done)
     | (suffices hp : putS Ls o = (9,Ls) by (rw [hp]; exact ⟨rfl,cs,by rw [h.keep how2],h,ha⟩)
        rw [hspec]; clear hspec cR happ hP hA hO how2 hlt hI1 hI2 hI3 hI4 hI6 h ha hd hB hnn
        simp_all; done)
    ·refine WC_seqR (fun N15 hN15 hD15 => ?_)
     simp only [sS,↓sT,Nat.reduceLT,Nat.reduceEqDiff,↓sO,↓WOps_g,sG,opV,loudV,cellsOf,strOp,evL,Nat.reduceAdd,Int.reduceBEq,Int.reduceBNe,happ,hc1,hc2,hi5,hI6,wrL_one,wr15,range_one,op_clean,op_len,Option.isSome_some,Nat.reducePow,Nat.reduceLeDiff,TD.intK?,elemsV,hI1,hI2,hI3,hI4,hsz,op_cells,opCells,List.all_cons,List.all_nil,icell_int,icell_str,icell_bool,dropsW_isC,Bool.and_self,load_slice,load_int,load_str,load_bool,tag_load2,load15,int_load,List.drop_zero,Nat.le_refl,hb4,hb8,ehg12_2,hb13]
     refine hN15 _ ?_; try clear hN15 hD15 N15
     refine WC_condE ?_
     simp only [sS,↓sT,Nat.reduceLT,Nat.reduceEqDiff,↓stepC_bool,hb4,hb8,ehg12_2,hb13,Int.reduceBEq,Int.reduceBNe,beq_self_eq_true,bne_self_eq_false]
     refine ⟨fun hb => ?_,fun hb => (by cases hb)⟩
     refine WC_seqR (fun N16 hN16 hD16 => ?_)
     simp only [sS,↓sT,Nat.reduceLT,Nat.reduceEqDiff,↓sO,↓WOps_g,sG,opV,loudV,cellsOf,strOp,evL,Nat.reduceAdd,Int.reduceBEq,Int.reduceBNe,happ,hc1,hc2,hi5,hI6,wrL_one,wr15,range_one,op_clean,op_len,Option.isSome_some,Nat.reducePow,Nat.reduceLeDiff,TD.intK?,elemsV,hI1,hI2,hI3,hI4,hsz,op_cells,opCells,List.all_cons,List.all_nil,icell_int,icell_str,icell_bool,dropsW_isC,Bool.and_self,load_slice,load_int,load_str,load_bool,tag_load2,load15,int_load,List.drop_zero,Nat.le_refl,hb4,hb8,ehg12_2,hb13]
     refine hN16 _ ?_; try clear hN16 hD16 N16
     refine WC_ret ?_; (try simp only [Exit.after,Exit.out]); refine Kend_ret1 (by simp only [resOf,resL,resV,mkS_get,slots_get,cellsOf,op_load,List.getElem?_cons_zero,List.getElem?_cons_succ,List.drop_zero,ti49,sS,↓sT,Nat.reduceLT,Nat.reduceEqDiff]; rfl) rfl (by first | rfl | (simp only [op_load,List.getElem?_cons_zero,List.getElem?_cons_succ,List.drop_zero,ti49]; done)) (by first | exact h.noP | exact hP.noP) ?_
     clear hN11 hD11 N11
     first
     | (cases hb4; done)
     | (cases hb8; done)
     | (suffices hp : putS Ls o = (0,Ls.set i (l ++ [o.own])) by (rw [hp]; exact ⟨rfl,_,by rw [hP.keep hO],hP,hA⟩)
        rw [hspec]; clear hspec cR happ hP hA hO how2 hlt hI1 hI2 hI3 hI4 hI6 h ha hd hB hnn
        simp_all)
     | (suffices hp : putS Ls o = (7,Ls) by (rw [hp]; exact ⟨rfl,cs,by rw [h.keep how2],h,ha⟩)
        rw [hspec]; clear hspec cR happ hP hA hO how2 hlt hI1 hI2 hI3 hI4 hI6 h ha hd hB hnn
        simp_all; done)
     | (suffices hp : putS Ls o = (15,Ls) by (rw [hp]; exact ⟨rfl,cs,by rw [h.keep how2],h,ha⟩)
        rw [hspec]; clear hspec cR happ hP hA hO how2 hlt hI1 hI2 hI3 hI4 hI6 h ha hd hB hnn
        simp_all; done)
     | (suffices hp : putS Ls o = (17,Ls) by (rw [hp]; exact ⟨rfl,cs,by rw [h.keep how2],h,ha⟩)
        rw [hspec]; clear hspec cR happ hP hA hO how2 hlt hI1 hI2 hI3 hI4 hI6 h ha hd hB hnn
        simp_all; done)
     | (suffices hp : putS Ls o = (9,Ls) by (rw [hp]; exact ⟨rfl,cs,by rw [h.keep how2],h,ha⟩)
        rw [hspec]; clear hspec cR happ hP hA hO how2 hlt hI1 hI2 hI3 hI4 hI6 h ha hd hB hnn
        simp_all; done)
   ·simp only [sS,↓sT,Nat.reduceLT,Nat.reduceEqDiff,↓sO,↓WOps_g,sG,opV,loudV,cellsOf,strOp,evL,Nat.reduceAdd,Int.reduceBEq,Int.reduceBNe,ti49,happ,hc1,hc2,hi5,hI6,wrL_one,wr15,range_one,op_clean,op_len,Option.isSome_some,Nat.reducePow,Nat.reduceLeDiff,TD.intK?,elemsV,hI1,hI2,hI3,hI4,hsz,op_cells,opCells,List.all_cons,List.all_nil,icell_int,icell_str,icell_bool,dropsW_isC,Bool.and_self,load_slice,load_int,load_str,load_bool,tag_load2,load15,int_load,List.drop_zero,Nat.le_refl,hb4,hb8,hg12_2]
    refine hN12 _ ?_; try clear hN12 hD12 N12
    refine WC_condE ?_
    simp only [sS,↓sT,Nat.reduceLT,Nat.reduceEqDiff,↓stepC_bool,hb4,hb8,hg12_2,Int.reduceBEq,Int.reduceBNe,beq_self_eq_true,bne_self_eq_false]
    refine ⟨fun hb => (by cases hb),fun hb => ?_⟩
    refine WC_seqR (fun N17 hN17 hD17 => ?_)
    simp only [sS,↓sT,Nat.reduceLT,Nat.reduceEqDiff,↓sO,↓WOps_g,sG,opV,loudV,cellsOf,strOp,evL,Nat.reduceAdd,Int.reduceBEq,Int.reduceBNe,happ,hc1,hc2,hi5,hI6,wrL_one,wr15,range_one,op_clean,op_len,Option.isSome_some,Nat.reducePow,Nat.reduceLeDiff,TD.intK?,elemsV,hI1,hI2,hI3,hI4,hsz,op_cells,opCells,List.all_cons,List.all_nil,icell_int,icell_str,icell_bool,dropsW_isC,Bool.and_self,load_slice,load_int,load_str,load_bool,tag_load2,load15,int_load,List.drop_zero,Nat.le_refl,hb4,hb8,hg12_2]
    refine hN17 _ ?_; try clear hN17 hD17 N17
    refine WC_condE ?_
    simp only [sS,↓sT,Nat.reduceLT,Nat.reduceEqDiff,↓stepC_bool,hb4,hb8,hg12_2,Int.reduceBEq,Int.reduceBNe,beq_self_eq_true,bne_self_eq_false]
    refine ⟨fun hb => (by cases hb),fun hb => ?_⟩
    refine WC_skip ?_
    refine hN11 _ ?_; try clear hN11 hD11 N11
    refine WC_seqD mixed [] [0,0,0,0,0,0,0,0,0] (by decide +kernel) (fun N18 hN18 hD18 => ?_)
    simp only [sS,↓sT,Nat.reduceLT,Nat.reduceEqDiff,↓sD,↓D_g,memOk,lets0,lets1,List.not_mem_nil,not_false_eq_true,true_and,and_true,sG,opV,loudV,cellsOf,strOp,evL,Nat.reduceAdd,Int.reduceBEq,Int.reduceBNe,fS49,fS25,ti3,fS82,ti80,happ,hc1,hc2,hi5,hI6,wrL_one,wr15,range_one,op_clean,op_len,Option.isSome_some,Nat.reducePow,Nat.reduceLeDiff,TD.intK?,elemsV,hI1,hI2,hI3,hI4,hsz,op_cells,opCells,List.all_cons,List.all_nil,icell_int,icell_str,icell_bool,dropsW_isC,Bool.and_self,load_slice,load_int,load_str,load_bool,tag_load2,load15,int_load,List.drop_zero,Nat.le_refl,hb4,hb8,hg12_2]
    refine hN18 _ ?_; try clear hN18 hD18 N18
    refine WC_seqN (fun N19 hN19 hD19 => ?_)
    refine WC_seqD mixed [] [0,0,0,0,0,0,0,0,0] (by decide +kernel) (fun N20 hN20 hD20 => ?_)
    simp only [sS,↓sT,Nat.reduceLT,Nat.reduceEqDiff,↓sD,↓D_g,memOk,lets0,lets1,List.not_mem_nil,not_false_eq_true,true_and,and_true,sG,opV,loudV,cellsOf,strOp,evL,Nat.reduceAdd,Int.reduceBEq,Int.reduceBNe,fS49,fS25,ti3,ti52,happ,hc1,hc2,hi5,hI6,wrL_one,wr15,range_one,op_clean,op_len,Option.isSome_some,Nat.reducePow,Nat.reduceLeDiff,TD.intK?,elemsV,hI1,hI2,hI3,hI4,hsz,op_cells,opCells,List.all_cons,List.all_nil,icell_int,icell_str,icell_bool,dropsW_isC,Bool.and_self,load_slice,load_int,load_str,load_bool,tag_load2,load15,int_load,List.drop_zero,Nat.le_refl,hb4,hb8,hg12_2]
    refine hN20 _ ?_; try clear hN20 hD20 N20
    refine WC_condE ?_
    simp only [sS,↓sT,Nat.reduceLT,Nat.reduceEqDiff,↓stepC_bool,hb4,hb8,hg12_2,Int.reduceBEq,Int.reduceBNe,beq_self_eq_true,bne_self_eq_false]
    refine ⟨fun hb21 => ?_,fun hb21 => ?_⟩
    ·refine WC_seqR (fun N22 hN22 hD22 => ?_)
     simp only [sS,↓sT,Nat.reduceLT,Nat.reduceEqDiff,↓sO,↓WOps_g,sG,opV,loudV,cellsOf,strOp,evL,Nat.reduceAdd,Int.reduceBEq,Int.reduceBNe,happ,hc1,hc2,hi5,hI6,wrL_one,wr15,range_one,op_clean,op_len,Option.isSome_some,Nat.reducePow,Nat.reduceLeDiff,TD.intK?,elemsV,hI1,hI2,hI3,hI4,hsz,op_cells,opCells,List.all_cons,List.all_nil,icell_int,icell_str,icell_bool,dropsW_isC,Bool.and_self,load_slice,load_int,load_str,load_bool,tag_load2,load15,int_load,List.drop_zero,Nat.le_refl,hb4,hb8,hg12_2,hb21]
     refine hN22 _ ?_; try clear hN22 hD22 N22
     refine WC_ret ?_; (try simp only [Exit.after,Exit.out]); refine Kend_ret1 (by simp only [resOf,resL,resV,mkS_get,slots_get,cellsOf,op_load,List.getElem?_cons_zero,List.getElem?_cons_succ,List.drop_zero,ti49,sS,↓sT,Nat.reduceLT,Nat.reduceEqDiff]; rfl) rfl (by first | rfl | (simp only [op_load,List.getElem?_cons_zero,List.getElem?_cons_succ,List.drop_zero,ti49]; done)) (by first | exact h.noP | exact hP.noP) ?_
     clear hN19 hD19 N19
     first
     | (cases hb4; done)
     | (cases hb8; done)
     | (suffices hp : putS Ls o = (0,Ls.set i (l ++ [o.own])) by (rw [hp]; exact ⟨rfl,_,by rw [hP.keep hO],hP,hA⟩)
        rw [hspec]; clear hspec cR happ hP hA hO how2 hlt hI1 hI2 hI3 hI4 hI6 h ha hd hB hnn
        simp_all)
     | (suffices hp : putS Ls o = (7,Ls) by (rw [hp]; exact ⟨rfl,cs,by rw [h.keep how2],h,ha⟩)
        rw [hspec]; clear hspec cR happ hP hA hO how2 hlt hI1 hI2 hI3 hI4 hI6 h ha hd hB hnn
        simp_all; done)
     | (suffices hp : putS Ls o = (15,Ls) by (rw [hp]; exact ⟨rfl,cs,by rw [h.keep how2],h,ha⟩)
        rw [hspec]; clear hspec cR happ hP hA hO how2 hlt hI1 hI2 hI3 hI4 hI6 h ha hd hB hnn
        simp_all; done)
     | (suffices hp : putS Ls o = (17,Ls) by (rw [hp]; exact ⟨rfl,cs,by rw [h.keep how2],h,ha⟩)
        rw [hspec]; clear hspec cR happ hP hA hO how2 hlt hI1 hI2 hI3 hI4 hI6 h ha hd hB hnn
        simp_all; done)
     | (suffices hp : putS Ls o = (9,Ls) by (rw [hp]; exact ⟨rfl,cs,by rw [h.keep how2],h,ha⟩)
        rw [hspec]; clear hspec cR happ hP hA hO how2 hlt hI1 hI2 hI3 hI4 hI6 h ha hd hB hnn
        simp_all; done)
    ·refine WC_skip ?_
     refine hN19 _ ?_; try clear hN19 hD19 N19
     refine WC_seqN (fun N23 hN23 hD23 => ?_)
     refine WC_seqR (fun N24 hN24 hD24 => ?_)
     simp only [sS,↓sT,Nat.reduceLT,Nat.reduceEqDiff,↓sO,↓WOps_g,sG,opV,loudV,cellsOf,strOp,evL,Nat.reduceAdd,Int.reduceBEq,Int.reduceBNe,happ,hc1,hc2,hi5,hI6,wrL_one,wr15,range_one,op_clean,op_len,Option.isSome_some,Nat.reducePow,Nat.reduceLeDiff,TD.intK?,elemsV,hI1,hI2,hI3,hI4,hsz,op_cells,opCells,List.all_cons,List.all_nil,icell_int,icell_str,icell_bool,dropsW_isC,Bool.and_self,load_slice,load_int,load_str,load_bool,tag_load2,load15,int_load,List.drop_zero,Nat.le_refl,hb4,hb8,hg12_2,hb21]
     refine WOps_callL (c__punnet_pool_Pool_Len Ls (cs.map V.bareC) h.bare) (by simp only [ev_func]) (by first | (simp only [evL,sS,↓sT,Nat.reduceLT,Nat.reduceEqDiff]; done) | (simp only [evL,sS,↓sT,Nat.reduceLT,Nat.reduceEqDiff]; rfl)) (h.lent rfl) (by first | rfl | exact rfl) ?_
     simp only [sS,↓sT,Nat.reduceLT,Nat.reduceEqDiff,↓sO,↓WOps_g,sG,opV,loudV,cellsOf,strOp,evL,Nat.reduceAdd,Int.reduceBEq,Int.reduceBNe,happ,hc1,hc2,hi5,hI6,wrL_one,wr15,range_one,op_clean,op_len,Option.isSome_some,Nat.reducePow,Nat.reduceLeDiff,TD.intK?,elemsV,hI1,hI2,hI3,hI4,hsz,op_cells,opCells,List.all_cons,List.all_nil,icell_int,icell_str,icell_bool,dropsW_isC,Bool.and_self,load_slice,load_int,load_str,load_bool,tag_load2,load15,int_load,List.drop_zero,Nat.le_refl,hb4,hb8,hg12_2,hb21]
     refine hN24 _ ?_; try clear hN24 hD24 N24
     refine WC_condE ?_
     simp only [sS,↓sT,Nat.reduceLT,Nat.reduceEqDiff,↓stepC_bool,hb4,hb8,hg12_2,hb21,Int.reduceBEq,Int.reduceBNe,beq_self_eq_true,bne_self_eq_false]
     refine ⟨fun hb25 => ?_,fun hb25 => ?_⟩
     ·have ehb25 := eq_of_beq hb25
      refine WC_seqR (fun N26 hN26 hD26 => ?_)
      simp only [sS,↓sT,Nat.reduceLT,Nat.reduceEqDiff,↓sO,↓WOps_g,sG,opV,loudV,cellsOf,strOp,evL,Nat.reduceAdd,Int.reduceBEq,Int.reduceBNe,happ,hc1,hc2,hi5,hI6,wrL_one,wr15,range_one,op_clean,op_len,Option.isSome_some,Nat.reducePow,Nat.reduceLeDiff,TD.intK?,elemsV,hI1,hI2,hI3,hI4,hsz,op_cells,opCells,List.all_cons,List.all_nil,icell_int,icell_str,icell_bool,dropsW_isC,Bool.and_self,load_slice,load_int,load_str,load_bool,tag_load2,load15,int_load,List.drop_zero,Nat.le_refl,hb4,hb8,hg12_2,hb21,ehb25]
      refine hN26 _ ?_; try clear hN26 hD26 N26
      refine WC_ret ?_; (try simp only [Exit.after,Exit.out]); refine Kend_ret1 (by simp only [resOf,resL,resV,mkS_get,slots_get,cellsOf,op_load,List.getElem?_cons_zero,List.getElem?_cons_succ,List.drop_zero,ti49,sS,↓sT,Nat.reduceLT,Nat.reduceEqDiff]; rfl) rfl (by first | rfl | (simp only [op_load,List.getElem?_cons_zero,List.getElem?_cons_succ,List.drop_zero,ti49]; done)) (by first | exact h.noP | exact hP.noP) ?_
      clear hN23 hD23 N23
      first
      | (cases hb4; done)
      | (cases hb8; done)
      | (suffices hp : putS Ls o = (0,Ls.set i (l ++ [o.own])) by (rw [hp]; exact ⟨rfl,_,by rw [hP.keep hO],hP,hA⟩)
         rw [hspec]; clear hspec cR happ hP hA hO how2 hlt hI1 hI2 hI3 hI4 hI6 h ha hd hB hnn
         simp_all)
      | (suffices hp : putS Ls o = (7,Ls) by (rw [hp]; exact ⟨rfl,cs,by rw [h.keep how2],h,ha⟩)
         rw [hspec]; clear hspec cR happ hP hA hO how2 hlt hI1 hI2 hI3 hI4 hI6 h ha hd hB hnn
         simp_all; done)
      | (suffices hp : putS Ls o = (15,Ls) by (rw [hp]; exact ⟨rfl,cs,by rw [h.keep how2],h,ha⟩)
         rw [hspec]; clear hspec cR happ hP hA hO how2 hlt hI1 hI2 hI3 hI4 hI6 h ha hd hB hnn
         simp_all; done)
      | (suffices hp : putS Ls o = (17,Ls) by (rw [hp]; exact ⟨rfl,cs,by rw [h.keep how2],h,ha⟩)
         rw [hspec]; clear hspec cR happ hP hA hO how2 hlt hI1 hI2 hI3 hI4 hI6 h ha hd hB hnn
         simp_all; done)
      | (suffices hp : putS Ls o = (9,Ls) by (rw [hp]; exact ⟨rfl,cs,by rw [h.keep how2],h,ha⟩)
         rw [hspec]; clear hspec cR happ hP hA hO how2 hlt hI1 hI2 hI3 hI4 hI6 h ha hd hB hnn
         simp_all; done)
     ·refine WC_skip ?_
      refine hN23 _ ?_; try clear hN23 hD23 N23
      refine WC_seqD mixed [] [0,0,0,0,0,1,0,0,0,0] (by decide +kernel) (fun N27 hN27 hD27 => ?_)
      simp only [sS,↓sT,Nat.reduceLT,Nat.reduceEqDiff,↓sD,↓D_g,memOk,lets0,lets1,List.not_mem_nil,not_false_eq_true,true_and,and_true,sG,opV,loudV,cellsOf,strOp,evL,Nat.reduceAdd,Int.reduceBEq,Int.reduceBNe,ti52,ti49,buildSliceV,happ,hc1,hc2,hi5,hI6,wrL_one,wr15,range_one,op_clean,op_len,Option.isSome_some,Nat.reducePow,Nat.reduceLeDiff,TD.intK?,elemsV,hI1,hI2,hI3,hI4,hsz,op_cells,opCells,List.all_cons,List.all_nil,icell_int,icell_str,icell_bool,dropsW_isC,Bool.and_self,load_slice,load_int,load_str,load_bool,tag_load2,load15,int_load,List.drop_zero,Nat.le_refl,hb4,hb8,hg12_2,hb21,hb25]
      refine D_callP (c_punnet_op_Own o hDr) (by simp only [ev_func]) (by simp only [evL,sS,↓sT,Nat.reduceLT,Nat.reduceEqDiff]; rfl) (by first | rfl | (simp only [List.map,op_bare]; done) | (simp only [List.map,op_bare]; exact rfl)) (by first | rfl | simp [op_noP]) (by first | rfl | simp [op_noP]) (by first | exact op_bare _ | rfl) ?_
      simp only [sS,↓sT,Nat.reduceLT,Nat.reduceEqDiff,↓sD,↓D_g,memOk,lets0,lets1,List.not_mem_nil,not_false_eq_true,true_and,and_true,sG,opV,loudV,cellsOf,strOp,evL,Nat.reduceAdd,Int.reduceBEq,Int.reduceBNe,ti52,ti49,buildSliceV,happ,hc1,hc2,hi5,hI6,wrL_one,wr15,range_one,op_clean,op_len,Option.isSome_some,Nat.reducePow,Nat.reduceLeDiff,TD.intK?,elemsV,hI1,hI2,hI3,hI4,hsz,op_cells,opCells,List.all_cons,List.all_nil,icell_int,icell_str,icell_bool,dropsW_isC,Bool.and_self,load_slice,load_int,load_str,load_bool,tag_load2,load15,int_load,List.drop_zero,Nat.le_refl,hb4,hb8,hg12_2,hb21,hb25]
      refine hN27 _ ?_; try clear hN27 hD27 N27
      refine WC_seqR (fun N28 hN28 hD28 => ?_)
      simp only [sS,↓sT,Nat.reduceLT,Nat.reduceEqDiff,↓sO,↓WOps_g,sG,opV,loudV,cellsOf,strOp,evL,Nat.reduceAdd,Int.reduceBEq,Int.reduceBNe,happ,hc1,hc2,hi5,hI6,wrL_one,wr15,range_one,op_clean,op_len,Option.isSome_some,Nat.reducePow,Nat.reduceLeDiff,TD.intK?,elemsV,hI1,hI2,hI3,hI4,hsz,op_cells,opCells,List.all_cons,List.all_nil,icell_int,icell_str,icell_bool,dropsW_isC,Bool.and_self,load_slice,load_int,load_str,load_bool,tag_load2,load15,int_load,List.drop_zero,Nat.le_refl,hb4,hb8,hg12_2,hb21,hb25]
      refine hN28 _ ?_; try clear hN28 hD28 N28
      refine WC_ret ?_; (try simp only [Exit.after,Exit.out]); refine Kend_ret1 (by simp only [resOf,resL,resV,mkS_get,slots_get,cellsOf,op_load,List.getElem?_cons_zero,List.getElem?_cons_succ,List.drop_zero,ti49,sS,↓sT,Nat.reduceLT,Nat.reduceEqDiff]; rfl) rfl (by first | rfl | (simp only [op_load,List.getElem?_cons_zero,List.getElem?_cons_succ,List.drop_zero,ti49]; done)) (by first | exact h.noP | exact hP.noP) ?_
      first
      | (cases hb4; done)
      | (cases hb8; done)
      | (suffices hp : putS Ls o = (0,Ls.set i (l ++ [o.own])) by (rw [hp]; exact ⟨rfl,_,by rw [hP.keep hO],hP,hA⟩)
         rw [hspec]; clear hspec cR happ hP hA hO how2 hlt hI1 hI2 hI3 hI4 hI6 h ha hd hB hnn
         simp_all)
      | (suffices hp : putS Ls o = (7,Ls) by (rw [hp]; exact ⟨rfl,cs,by rw [h.keep how2],h,ha⟩)
         rw [hspec]; clear hspec cR happ hP hA hO how2 hlt hI1 hI2 hI3 hI4 hI6 h ha hd hB hnn
         simp_all; done)
      | (suffices hp : putS Ls o = (15,Ls) by (rw [hp]; exact ⟨rfl,cs,by rw [h.keep how2],h,ha⟩)
         rw [hspec]; clear hspec cR happ hP hA hO how2 hlt hI1 hI2 hI3 hI4 hI6 h ha hd hB hnn
         simp_all; done)
      | (suffices hp : putS Ls o = (17,Ls) by (rw [hp]; exact ⟨rfl,cs,by rw [h.keep how2],h,ha⟩)
         rw [hspec]; clear hspec cR happ hP hA hO how2 hlt hI1 hI2 hI3 hI4 hI6 h ha hd hB hnn
         simp_all; done)
      | (suffices hp : putS Ls o = (9,Ls) by (rw [hp]; exact ⟨rfl,cs,by rw [h.keep how2],h,ha⟩)
         rw [hspec]; clear hspec cR happ hP hA hO how2 hlt hI1 hI2 hI3 hI4 hI6 h ha hd hB hnn
         simp_all; done)
end Go.PV
/- Pools: Since. -/
namespace Go.PV
open Go.Proofs
set_option linter.unusedVariables false
set_option linter.unusedSimpArgs false
set_option maxRecDepth 10000
set_option maxHeartbeats 1000000

/-- fewer tokens -/
theorem WC_sub {c : Code} {K : Exit → St → Prop} {sl : List V} {h : List (List V)} {ow ow' : List (Nat × Nat)} {nx : Nat} (hs : ∀ q ∈ ow', q ∈ ow) (k : WC Try.prog c K ⟨sl, h, ow', nx⟩) : WC Try.prog c K ⟨sl, h, ow, nx⟩ := by
  intro w0 G0 a w Q hc hQ
  refine k w0 G0 a w Q ?_ hQ
  obtain ⟨G,hsr,I,hd⟩ := hc
  exact ⟨G,hsr,⟨I.heap,⟨fun id n hq => I.own.mem id n (hs _ hq),I.own.ok,I.own.there,I.own.notS,I.own.notMu,I.own.apart⟩,I.sok,I.since,I.mono,I.nx⟩,hd⟩
/-- a list of ops that grows -/
def SO (ow0 : List (Nat × Nat)) (n : Nat) (l : List OpS) (x : V) (ow : List (Nat × Nat)) (nx : Nat) : Prop :=
  n ≤ nx ∧ ((l = [] ∧ x = .nils ∧ ow = ow0) ∨ ∃ k,n ≤ k ∧ l ≠ [] ∧ x = .slice 15 (l.map opW) false (some k) ∧ ow = (k,l.length) :: ow0)
def opsV (l : List OpS) : V := if l.isEmpty then .nils else .slice 15 (l.map opW) false none
theorem SO.len {ow0 : List (Nat × Nat)} {n : Nat} {l : List OpS} {x : V} {ow : List (Nat × Nat)} {nx : Nat} (h : SO ow0 n l x ow nx) : lenV Try.prog 52 x = some (.int .i64 l.length) := by
  obtain ⟨_,⟨rfl,rfl,_⟩ | ⟨k,_,_,rfl,_⟩⟩ := h <;> simp [lenV,ti52]
theorem SO.app {ow0 : List (Nat × Nat)} {n : Nat} {l : List OpS} {x : V} {ow : List (Nat × Nat)} {nx : Nat} (h : SO ow0 n l x ow nx) (h0 : ∀ q ∈ ow0, q.1 < n) (o : OpS) (hl : l.length + 1 ≤ maxApp) :
    ∃ x' ow' nx',appendV (⟨.struct [(0,25),(2,25),(4,2),(5,9),(6,3),(7,9),(8,47),(11,2),(12,4),(13,9),(14,38)],15,176,some [.int .i64 0, .int .i64 0, .int .i64 0, .int .i64 0, .int .i64 0, .str [], .int .i64 0, .str [], .int .i64 0, .str [], .str [], .int .i64 0, .bool false, .str [], .nils]⟩ : TI) ow nx x [opW o] = some (x',ow',nx') ∧ SO ow0 n (l ++ [o]) x' ow' nx' := by
  obtain ⟨hn,⟨rfl,rfl,rfl⟩ | ⟨k,hk,hne,rfl,rfl⟩⟩ := h
  · refine ⟨_,_,_,by simp only [appendV,List.length_cons,List.length_nil]; rw [if_pos (by simpa using hl)]; rfl,by omega, .inr ⟨nx,hn,by simp,by simp,by simp⟩⟩
  · have hf : ow0.filter (fun q => q.1 != k) = ow0 := List.filter_eq_self.2 fun q hq => by have := h0 q hq; simp; omega
    refine ⟨.slice 15 (l.map opW ++ [opW o]) false (some k),(k,l.length + 1) :: ow0,nx, ?_,hn, .inr ⟨k,hk,by simp,by simp,by simp⟩⟩
    simp only [appendV,List.length_map,List.length_cons,List.length_nil]
    rw [if_pos (by simpa using hl)]
    simp [hf]
theorem SO.keep {ow0 : List (Nat × Nat)} {n : Nat} {l : List OpS} {x : V} {ow : List (Nat × Nat)} {nx : Nat} (h : SO ow0 n l x ow nx) (h0 : ∀ q ∈ ow0, q.1 < n) : V.keep ow0 x = opsV l ∧ okV 1 x = true ∧ ∀ q ∈ ow0, q ∈ ow := by
  obtain ⟨hn,⟨rfl,rfl,rfl⟩ | ⟨k,hk,hne,rfl,rfl⟩⟩ := h
  · exact ⟨rfl,rfl,fun q hq => hq⟩
  · refine ⟨?_,rfl,fun q hq => List.mem_cons_of_mem _ hq⟩
    have : ow0.contains (k,(l.map opW).length) = false := by
      cases hc : ow0.contains (k,(l.map opW).length) with
      | false => rfl
      | true => have := h0 _ (by simpa using hc); simp at this; omega
    simp only [V.keep,V.keep1,V.keepC,this,opsV,List.isEmpty_iff,hne]; simp
/-- what v lacks, at most so many -/
def lackB (v : List Int) (o : OpS) : Bool := !hasB v o.idR o.idN
def partL (Ls : List (List OpS)) (v : List Int) (t : Nat) : List OpS := (((Ls.take t).flatten).filter (lackB v)).map OpS.own
def sinceL (Ls : List (List OpS)) (v : List Int) (most : Int) : List OpS := (partL Ls v 6).take most.toNat
theorem op_tag {l : List (Nat × TypeId)} {b : Nat} {z : Option (List V)} (o : OpS) : loadV ⟨.struct l, 2, b, z⟩ (opCells o) = some (tagV o.idR o.idN) := rfl
theorem part_step {Ls : List (List OpS)} {v : List Int} {t : Nat} {l : List OpS} (h : Ls[t]? = some l) : partL Ls v (t + 1) = partL Ls v t ++ (l.filter (lackB v)).map OpS.own := by
  simp [partL,List.take_add_one,h]
theorem take_step {l : List OpS} {v : List Int} {j : Nat} {o : OpS} (h : l[j]? = some o) : ((l.take (j + 1)).filter (lackB v)).map OpS.own = ((l.take j).filter (lackB v)).map OpS.own ++ (if lackB v o = true then [o.own] else []) := by
  rw [List.take_add_one,h,List.filter_append,List.map_append]
  congr 1
  cases hb : lackB v o <;> simp [hb]
theorem part_len {Ls : List (List OpS)} {v : List Int} (hB : ∀ l ∈ Ls, l.length ≤ 400) : ∀ t, (partL Ls v t).length ≤ 400 * t
  | 0 => by simp [partL]
  | t + 1 => by
    have ih := part_len (v := v) hB t
    cases hl : Ls[t]? with
    | none => simp only [partL,List.take_add_one,hl,Option.toList_none,List.append_nil] at ih ⊢; omega
    | some l =>
      rw [part_step hl,List.length_append,List.length_map]
      have h1 := hB l (List.mem_of_getElem? hl)
      have h2 := List.length_filter_le (lackB v) l
      omega
theorem part_pre {Ls : List (List OpS)} {v : List Int} (t : Nat) : ∀ d, ∃ r, partL Ls v (t + d) = partL Ls v t ++ r
  | 0 => ⟨[],by simp⟩
  | d + 1 => by
    obtain ⟨r,hr⟩ := part_pre (Ls := Ls) (v := v) t d
    cases hl : Ls[t + d]? with
    | none => exact ⟨r,by rw [← hr,← Nat.add_assoc]; simp [partL,List.take_add_one,hl]⟩
    | some l => exact ⟨r ++ (l.filter (lackB v)).map OpS.own,by rw [← Nat.add_assoc,part_step hl,hr,List.append_assoc]⟩
theorem since_early {Ls : List (List OpS)} {v : List Int} {most : Int} {t j : Nat} {l out : List OpS} (hl : Ls[t]? = some l) (ht : t < 6) (ho : out = partL Ls v t ++ ((l.take j).filter (lackB v)).map OpS.own) (h1 : out.length ≤ most.toNat) (h2 : most ≤ (out.length : Int)) : out = sinceL Ls v most := by
  obtain ⟨r,hr⟩ := part_pre (Ls := Ls) (v := v) (t + 1) (6 - (t + 1))
  rw [show t + 1 + (6 - (t + 1)) = 6 from by omega,part_step hl] at hr
  have hsp : (l.filter (lackB v)).map OpS.own = ((l.take j).filter (lackB v)).map OpS.own ++ ((l.drop j).filter (lackB v)).map OpS.own := by
    rw [← List.map_append,← List.filter_append,List.take_append_drop]
  rw [sinceL,hr,hsp,← List.append_assoc,← ho,List.append_assoc,show most.toNat = out.length from by omega,List.take_left]
theorem h__punnet_pool_Pool_Since (Ls : List (List OpS)) (cs : List V) (h : PCt Ls cs) (v : List Int) (hv : v.length = 6) (most : Int) (hd : ∀ l ∈ Ls, ∀ o ∈ l, o.drops.l.length ≤ maxApp) (hB : ∀ l ∈ Ls, l.length ≤ 400) : VC Try.prog 38 [.ptr 0 0, vecV v, .int .i64 most] [cs] (fun r hh => hh = [cs] ∧ r = opsV (sinceL Ls v most)) := by
 refine VC_enter (nt := 45) (rs := [.tmp 6]) (ow := cs.flatMap V.tokC) (m := 1) Try.func38 rfl (by rfl) rfl rfl (by simp) (by simp only [ownOf,List.flatMap_cons,List.flatMap_nil,vec_toks,List.append_nil]; rfl) rfl (fun n => ?_)
 simp only [zipT,Nat.zero_add]
 refine WC_lt (fun hlt => ?_)
 have hcl : cs.length = 6 := h.size
 have hso : SO (cs.flatMap V.tokC) n [] .nils (cs.flatMap V.tokC) n := ⟨Nat.le_refl _, .inl ⟨rfl,rfl,rfl⟩⟩
 have arr_load : loadV (⟨.arr 6 52,6,144,some [.nils, .nils, .nils, .nils, .nils, .nils]⟩ : TI) cs = some (.agg cs) := by
   simp only [loadV,TD.agg,hcl,if_true,Nat.le_refl]
   rw [List.take_of_length_le (by omega)]
 refine WC_seqR (fun N1 hN1 hD1 => ?_)
 simp only [sS,↓sT,Nat.reduceLT,Nat.reduceEqDiff,↓sO,↓WOps_g,sG,opV,loudV,cellsOf,strOp,evL,Nat.reduceAdd,Int.reduceBEq,Int.reduceBNe,vec_cells,all_ints,vec_load hv,load_slice,load_int,int_load,List.drop_zero,Nat.le_refl,hcl,arr_load,op_load,op_tag,op_cells,op_isC,op_full,op_len,cat_at,cat_set,range_one,op_clean,Option.isSome_some,Nat.reducePow,Nat.reduceLeDiff,TD.intK?,elemsV,List.all_cons,List.all_nil,ge_iff_le]
 refine hN1 _ ?_; try clear hN1 hD1 N1
 refine WC_seqR (fun N2 hN2 hD2 => ?_)
 simp only [sS,↓sT,Nat.reduceLT,Nat.reduceEqDiff,↓sO,↓WOps_g,sG,opV,loudV,cellsOf,strOp,evL,Nat.reduceAdd,Int.reduceBEq,Int.reduceBNe,vec_cells,all_ints,vec_load hv,load_slice,load_int,int_load,List.drop_zero,Nat.le_refl,hcl,arr_load,op_load,op_tag,op_cells,op_isC,op_full,op_len,cat_at,cat_set,range_one,op_clean,Option.isSome_some,Nat.reducePow,Nat.reduceLeDiff,TD.intK?,elemsV,List.all_cons,List.all_nil,ge_iff_le]
 refine hN2 _ ?_; try clear hN2 hD2 N2
 refine WC_seqN (fun N3 hN3 hD3 => ?_)
 refine WC_seqR (fun N4 hN4 hD4 => ?_)
 simp only [sS,↓sT,Nat.reduceLT,Nat.reduceEqDiff,↓sO,↓WOps_g,sG,opV,loudV,cellsOf,strOp,evL,Nat.reduceAdd,Int.reduceBEq,Int.reduceBNe,vec_cells,all_ints,vec_load hv,load_slice,load_int,int_load,List.drop_zero,Nat.le_refl,hcl,arr_load,op_load,op_tag,op_cells,op_isC,op_full,op_len,cat_at,cat_set,range_one,op_clean,Option.isSome_some,Nat.reducePow,Nat.reduceLeDiff,TD.intK?,elemsV,List.all_cons,List.all_nil,ge_iff_le]
 refine hN4 _ ?_; try clear hN4 hD4 N4
 refine WC_condE ?_
 simp only [sS,↓sT,Nat.reduceLT,Nat.reduceEqDiff,↓stepC_bool]
 refine ⟨fun hb5 => ?_,fun hb5 => ?_⟩
 ·refine WC_seqR (fun N6 hN6 hD6 => ?_)
  simp only [sS,↓sT,Nat.reduceLT,Nat.reduceEqDiff,↓sO,↓WOps_g,sG,opV,loudV,cellsOf,strOp,evL,Nat.reduceAdd,Int.reduceBEq,Int.reduceBNe,vec_cells,all_ints,vec_load hv,load_slice,load_int,int_load,List.drop_zero,Nat.le_refl,hcl,arr_load,op_load,op_tag,op_cells,op_isC,op_full,op_len,cat_at,cat_set,range_one,op_clean,Option.isSome_some,Nat.reducePow,Nat.reduceLeDiff,TD.intK?,elemsV,List.all_cons,List.all_nil,ge_iff_le]
  refine hN6 _ ?_; try clear hN6 hD6 N6
  refine WC_sub (hso.keep hlt).2.2 ?_
  refine WC_ret ?_; (try simp only [Exit.after,Exit.out]); refine Kend_ret1 (by first | (simp only [resOf,resL,resV,mkS_get,slots_get,cellsOf,op_load,List.getElem?_cons_zero,List.getElem?_cons_succ,List.drop_zero,ti49,sS,↓sT,Nat.reduceLT,Nat.reduceEqDiff]; done) | (simp only [resOf,resL,resV,mkS_get,slots_get,cellsOf,op_load,List.getElem?_cons_zero,List.getElem?_cons_succ,List.drop_zero,ti49,sS,↓sT,Nat.reduceLT,Nat.reduceEqDiff]; rfl)) rfl (hso.keep hlt).2.1 h.noP ?_
  clear hN3 hD3 N3
  refine ⟨by rw [h.keep (fun q hq => hq)], ?_⟩
  first
  | (cases hb5; done)
  | (rw [(hso.keep hlt).1,hout,ht,sinceL,List.take_of_length_le (by rw [← ht,← hout]; exact hmost)]; done)
  | (rw [(hso.keep hlt).1,since_early k1 ht hout hmost (of_decide_eq_true hb22)]; done)
 ·refine WC_skip ?_
  refine hN3 _ ?_; try clear hN3 hD3 N3
  refine WC_seqN (fun N7 hN7 hD7 => ?_)
  refine WC_seqR (fun N8 hN8 hD8 => ?_)
  simp only [sS,↓sT,Nat.reduceLT,Nat.reduceEqDiff,↓sO,↓WOps_g,sG,opV,loudV,cellsOf,strOp,evL,Nat.reduceAdd,Int.reduceBEq,Int.reduceBNe,fS82,ti80,vec_cells,all_ints,vec_load hv,load_slice,load_int,int_load,List.drop_zero,Nat.le_refl,hcl,arr_load,op_load,op_tag,op_cells,op_isC,op_full,op_len,cat_at,cat_set,range_one,op_clean,Option.isSome_some,Nat.reducePow,Nat.reduceLeDiff,TD.intK?,elemsV,List.all_cons,List.all_nil,ge_iff_le]
  refine hN8 _ ?_; try clear hN8 hD8 N8
  refine WC_block ?_
  clear hso
  refine WC_loopG (σ := Nat × List OpS) (fun t s => ∃ ps x hs ow nx,s = ⟨mkS 45 ps,cs :: v.map (V.int .i64) :: hs,ow,nx⟩ ∧ Has ps [(2, .int .i64 most),(4, .ptr 1 0),(7,x),(17, .agg cs),(18, .int .i64 t.1)] ∧ SO (cs.flatMap V.tokC) n t.2 x ow nx ∧ t.1 ≤ 6 ∧ t.2 = partL Ls v t.1 ∧ t.2.length ≤ most.toNat) (fun t => 6 - t.1) (0, []) ?_ (fun t s hI => ?_)
  · exact ⟨_,_,_,_,_,rfl,⟨rfl,rfl,rfl,rfl,rfl,trivial⟩,⟨Nat.le_refl _, .inl ⟨rfl,rfl,rfl⟩⟩,by omega,rfl,by simp⟩
  obtain ⟨ps,x,hs,ow,nx,rfl,hps,hso,ht6,hout,hmost⟩ := hI
  refine WC_has hps ?_; clear hps ps
  obtain ⟨t,out⟩ := t
  simp only at hso ht6 hout hmost ⊢
  refine WC_seqR (fun N9 hN9 hD9 => ?_)
  simp only [sS,↓sT,Nat.reduceLT,Nat.reduceEqDiff,↓sO,↓WOps_g,sG,opV,loudV,cellsOf,strOp,evL,Nat.reduceAdd,Int.reduceBEq,Int.reduceBNe,vec_cells,all_ints,vec_load hv,load_slice,load_int,int_load,List.drop_zero,Nat.le_refl,hcl,arr_load,op_load,op_tag,op_cells,op_isC,op_full,op_len,cat_at,cat_set,range_one,op_clean,Option.isSome_some,Nat.reducePow,Nat.reduceLeDiff,TD.intK?,elemsV,List.all_cons,List.all_nil,ge_iff_le]
  refine hN9 _ ?_; try clear hN9 hD9 N9
  refine WC_seqN (fun N10 hN10 hD10 => ?_)
  refine WC_condE ?_
  simp only [sS,↓sT,Nat.reduceLT,Nat.reduceEqDiff,↓stepC_bool]
  refine ⟨fun hb11 => ?_,fun hb11 => ?_⟩
  ·have ht : t < 6 := by have := of_decide_eq_true hb11; omega
   clear hb11
   obtain ⟨l,c,k1,k2,k3⟩ := h.get ht
   have hix : indexV Try.prog 80 (.agg cs) (.int .i64 t) = some c := by
     simp only [indexV,ti80,ti52]
     rw [if_pos (by omega)]
     simp [partV,TD.agg,k2]
   have hlen := k3.len
   have hl4 := hB l (List.mem_of_getElem? k1)
   refine WC_skip ?_
   refine hN10 _ ?_; try clear hN10 hD10 N10
   refine WC_seqN (fun N12 hN12 hD12 => ?_)
   refine WC_block ?_
   refine WC_seqR (fun N13 hN13 hD13 => ?_)
   simp only [sS,↓sT,Nat.reduceLT,Nat.reduceEqDiff,↓sO,↓WOps_g,sG,opV,loudV,cellsOf,strOp,evL,Nat.reduceAdd,Int.reduceBEq,Int.reduceBNe,ti80,vec_cells,all_ints,vec_load hv,load_slice,load_int,int_load,List.drop_zero,Nat.le_refl,hcl,arr_load,op_load,op_tag,op_cells,op_isC,op_full,op_len,cat_at,cat_set,range_one,op_clean,Option.isSome_some,Nat.reducePow,Nat.reduceLeDiff,TD.intK?,elemsV,List.all_cons,List.all_nil,ge_iff_le,hix,hlen,wrapI (x := (t : Int) + 1) (by omega) (by omega)]
   refine hN13 _ ?_; try clear hN13 hD13 N13
   refine WC_seqR (fun N14 hN14 hD14 => ?_)
   simp only [sS,↓sT,Nat.reduceLT,Nat.reduceEqDiff,↓sO,↓WOps_g,sG,opV,loudV,cellsOf,strOp,evL,Nat.reduceAdd,Int.reduceBEq,Int.reduceBNe,ti52,vec_cells,all_ints,vec_load hv,load_slice,load_int,int_load,List.drop_zero,Nat.le_refl,hcl,arr_load,op_load,op_tag,op_cells,op_isC,op_full,op_len,cat_at,cat_set,range_one,op_clean,Option.isSome_some,Nat.reducePow,Nat.reduceLeDiff,TD.intK?,elemsV,List.all_cons,List.all_nil,ge_iff_le,hix,hlen,wrapI (x := (t : Int) + 1) (by omega) (by omega)]
   refine hN14 _ ?_; try clear hN14 hD14 N14
   refine WC_block ?_
   refine WC_loopG (σ := Nat × List OpS) (fun u s => ∃ ps x hs ow nx,s = ⟨mkS 45 ps,cs :: v.map (V.int .i64) :: hs,ow,nx⟩ ∧ Has ps [(2, .int .i64 most),(4, .ptr 1 0),(7,x),(17, .agg cs),(18, .int .i64 t),(21,c),(22, .int .i64 l.length),(23, .int .i64 u.1)] ∧ SO (cs.flatMap V.tokC) n u.2 x ow nx ∧ u.1 ≤ l.length ∧ u.2 = partL Ls v t ++ ((l.take u.1).filter (lackB v)).map OpS.own ∧ u.2.length ≤ most.toNat) (fun u => l.length - u.1) (0,out) ?_ (fun u s hI => ?_)
   · exact ⟨_,x,hs,ow,nx,rfl,⟨rfl,rfl,rfl,rfl,rfl,rfl,rfl,rfl,trivial⟩,hso,by omega,by simpa using hout,hmost⟩
   clear hso hout hmost x hs ow nx
   obtain ⟨ps,x,hs,ow,nx,rfl,hps,hso,hj6,hout,hmost⟩ := hI
   refine WC_has hps ?_; clear hps ps
   obtain ⟨j,out2⟩ := u
   simp only at hso hj6 hout hmost ⊢
   refine WC_seqR (fun N15 hN15 hD15 => ?_)
   simp only [sS,↓sT,Nat.reduceLT,Nat.reduceEqDiff,↓sO,↓WOps_g,sG,opV,loudV,cellsOf,strOp,evL,Nat.reduceAdd,Int.reduceBEq,Int.reduceBNe,vec_cells,all_ints,vec_load hv,load_slice,load_int,int_load,List.drop_zero,Nat.le_refl,hcl,arr_load,op_load,op_tag,op_cells,op_isC,op_full,op_len,cat_at,cat_set,range_one,op_clean,Option.isSome_some,Nat.reducePow,Nat.reduceLeDiff,TD.intK?,elemsV,List.all_cons,List.all_nil,ge_iff_le,hix,hlen,wrapI (x := (t : Int) + 1) (by omega) (by omega)]
   refine hN15 _ ?_; try clear hN15 hD15 N15
   refine WC_seqN (fun N16 hN16 hD16 => ?_)
   refine WC_condE ?_
   simp only [sS,↓sT,Nat.reduceLT,Nat.reduceEqDiff,↓stepC_bool]
   refine ⟨fun hb17 => ?_,fun hb17 => ?_⟩
   ·have hj : j < l.length := by have := of_decide_eq_true hb17; omega
    clear hb17
    obtain ⟨o,ho⟩ : ∃ o,l[j]? = some o := ⟨_,List.getElem?_eq_getElem hj⟩
    have hia := k3.ia ho
    have hstep := take_step (v := v) ho
    have hol : out2.length ≤ 2800 := by
      rw [hout,List.length_append,List.length_map]
      have h1 := part_len (v := v) hB t
      have h2 := List.length_filter_le (lackB v) (l.take j)
      have h3 := List.length_take_le j l
      omega
    obtain ⟨x',ow',nx',happ,hso'⟩ := hso.app hlt o.own (by unfold maxApp; omega)
    have hlx := hso.len
    refine WC_skip ?_
    refine hN16 _ ?_; try clear hN16 hD16 N16
    refine WC_seqN (fun N18 hN18 hD18 => ?_)
    refine WC_block ?_
    refine WC_seqR (fun N19 hN19 hD19 => ?_)
    simp only [sS,↓sT,Nat.reduceLT,Nat.reduceEqDiff,↓sO,↓WOps_g,sG,opV,loudV,cellsOf,strOp,evL,Nat.reduceAdd,Int.reduceBEq,Int.reduceBNe,ti52,ti49,vec_cells,all_ints,vec_load hv,load_slice,load_int,int_load,List.drop_zero,Nat.le_refl,hcl,arr_load,op_load,op_tag,op_cells,op_isC,op_full,op_len,cat_at,cat_set,range_one,op_clean,Option.isSome_some,Nat.reducePow,Nat.reduceLeDiff,TD.intK?,elemsV,List.all_cons,List.all_nil,ge_iff_le,hix,hlen,wrapI (x := (t : Int) + 1) (by omega) (by omega),hia,hlx,happ,wrapI (x := (j : Int) + 1) (by omega) (by omega)]
    refine hN19 _ ?_; try clear hN19 hD19 N19
    refine WC_seqN (fun N20 hN20 hD20 => ?_)
    refine WC_seqR (fun N21 hN21 hD21 => ?_)
    simp only [sS,↓sT,Nat.reduceLT,Nat.reduceEqDiff,↓sO,↓WOps_g,sG,opV,loudV,cellsOf,strOp,evL,Nat.reduceAdd,Int.reduceBEq,Int.reduceBNe,ti52,vec_cells,all_ints,vec_load hv,load_slice,load_int,int_load,List.drop_zero,Nat.le_refl,hcl,arr_load,op_load,op_tag,op_cells,op_isC,op_full,op_len,cat_at,cat_set,range_one,op_clean,Option.isSome_some,Nat.reducePow,Nat.reduceLeDiff,TD.intK?,elemsV,List.all_cons,List.all_nil,ge_iff_le,hix,hlen,wrapI (x := (t : Int) + 1) (by omega) (by omega),hia,hlx,happ,wrapI (x := (j : Int) + 1) (by omega) (by omega)]
    refine hN21 _ ?_; try clear hN21 hD21 N21
    refine WC_condE ?_
    simp only [sS,↓sT,Nat.reduceLT,Nat.reduceEqDiff,↓stepC_bool]
    refine ⟨fun hb22 => ?_,fun hb22 => ?_⟩
    ·refine WC_seqR (fun N23 hN23 hD23 => ?_)
     simp only [sS,↓sT,Nat.reduceLT,Nat.reduceEqDiff,↓sO,↓WOps_g,sG,opV,loudV,cellsOf,strOp,evL,Nat.reduceAdd,Int.reduceBEq,Int.reduceBNe,vec_cells,all_ints,vec_load hv,load_slice,load_int,int_load,List.drop_zero,Nat.le_refl,hcl,arr_load,op_load,op_tag,op_cells,op_isC,op_full,op_len,cat_at,cat_set,range_one,op_clean,Option.isSome_some,Nat.reducePow,Nat.reduceLeDiff,TD.intK?,elemsV,List.all_cons,List.all_nil,ge_iff_le,hix,hlen,wrapI (x := (t : Int) + 1) (by omega) (by omega),hia,hlx,happ,wrapI (x := (j : Int) + 1) (by omega) (by omega)]
     refine hN23 _ ?_; try clear hN23 hD23 N23
     refine WC_sub (hso.keep hlt).2.2 ?_
     refine WC_ret ?_; (try simp only [Exit.after,Exit.out]); refine Kend_ret1 (by first | (simp only [resOf,resL,resV,mkS_get,slots_get,cellsOf,op_load,List.getElem?_cons_zero,List.getElem?_cons_succ,List.drop_zero,ti49,sS,↓sT,Nat.reduceLT,Nat.reduceEqDiff]; done) | (simp only [resOf,resL,resV,mkS_get,slots_get,cellsOf,op_load,List.getElem?_cons_zero,List.getElem?_cons_succ,List.drop_zero,ti49,sS,↓sT,Nat.reduceLT,Nat.reduceEqDiff]; rfl)) rfl (hso.keep hlt).2.1 h.noP ?_
     clear hN20 hD20 N20 hN18 hD18 N18 hN12 hD12 N12 hN7 hD7 N7
     refine ⟨by rw [h.keep (fun q hq => hq)], ?_⟩
     first
     | (cases hb5; done)
     | (rw [(hso.keep hlt).1,hout,ht,sinceL,List.take_of_length_le (by rw [← ht,← hout]; exact hmost)]; done)
     | (rw [(hso.keep hlt).1,since_early k1 ht hout hmost (of_decide_eq_true hb22)]; done)
    ·refine WC_skip ?_
     refine hN20 _ ?_; try clear hN20 hD20 N20
     refine WC_seqR (fun N24 hN24 hD24 => ?_)
     simp only [sS,↓sT,Nat.reduceLT,Nat.reduceEqDiff,↓sO,↓WOps_g,sG,opV,loudV,cellsOf,strOp,evL,Nat.reduceAdd,Int.reduceBEq,Int.reduceBNe,ti23,fS49,ti25,vec_cells,all_ints,vec_load hv,load_slice,load_int,int_load,List.drop_zero,Nat.le_refl,hcl,arr_load,op_load,op_tag,op_cells,op_isC,op_full,op_len,cat_at,cat_set,range_one,op_clean,Option.isSome_some,Nat.reducePow,Nat.reduceLeDiff,TD.intK?,elemsV,List.all_cons,List.all_nil,ge_iff_le,hix,hlen,wrapI (x := (t : Int) + 1) (by omega) (by omega),hia,hlx,happ,wrapI (x := (j : Int) + 1) (by omega) (by omega)]
     refine WOps_callP (c_punnet_dot_Has v hv _ _) (by simp only [ev_func]) (by simp only [evL,sS,↓sT,Nat.reduceLT,Nat.reduceEqDiff]; rfl) (by first | rfl | (simp only [List.map,vec_bare,tag_bare,op_bare]; done) | (simp only [List.map,vec_bare,tag_bare,op_bare]; exact rfl)) (by first | rfl | simp [vec_noP,tag_noP,op_noP]) (by first | rfl | simp [vec_noP,tag_noP,op_noP]) (by first | exact op_bare _ | rfl) ?_
     simp only [sS,↓sT,Nat.reduceLT,Nat.reduceEqDiff,↓sO,↓WOps_g,sG,opV,loudV,cellsOf,strOp,evL,Nat.reduceAdd,Int.reduceBEq,Int.reduceBNe,ti23,fS49,ti25,vec_cells,all_ints,vec_load hv,load_slice,load_int,int_load,List.drop_zero,Nat.le_refl,hcl,arr_load,op_load,op_tag,op_cells,op_isC,op_full,op_len,cat_at,cat_set,range_one,op_clean,Option.isSome_some,Nat.reducePow,Nat.reduceLeDiff,TD.intK?,elemsV,List.all_cons,List.all_nil,ge_iff_le,hix,hlen,wrapI (x := (t : Int) + 1) (by omega) (by omega),hia,hlx,happ,wrapI (x := (j : Int) + 1) (by omega) (by omega)]
     refine hN24 _ ?_; try clear hN24 hD24 N24
     refine WC_condE ?_
     simp only [sS,↓sT,Nat.reduceLT,Nat.reduceEqDiff,↓stepC_bool]
     refine ⟨fun hb25 => ?_,fun hb25 => ?_⟩
     ·refine WC_regN (fun N26 hN26 => ?_)
      simp only [sS,↓sT,Nat.reduceLT,Nat.reduceEqDiff,↓sO,↓WOps_g,sG,opV,loudV,cellsOf,strOp,evL,Nat.reduceAdd,Int.reduceBEq,Int.reduceBNe,ti49,buildSliceV,ti52,vec_cells,all_ints,vec_load hv,load_slice,load_int,int_load,List.drop_zero,Nat.le_refl,hcl,arr_load,op_load,op_tag,op_cells,op_isC,op_full,op_len,cat_at,cat_set,range_one,op_clean,Option.isSome_some,Nat.reducePow,Nat.reduceLeDiff,TD.intK?,elemsV,List.all_cons,List.all_nil,ge_iff_le,hix,hlen,wrapI (x := (t : Int) + 1) (by omega) (by omega),hia,hlx,happ,wrapI (x := (j : Int) + 1) (by omega) (by omega)]
      refine WOps_callP (c_punnet_op_Own o (hd l (List.mem_of_getElem? k1) o (List.mem_of_getElem? ho))) (by simp only [ev_func]) (by simp only [evL,sS,↓sT,Nat.reduceLT,Nat.reduceEqDiff]; rfl) (by first | rfl | (simp only [List.map,vec_bare,tag_bare,op_bare]; done) | (simp only [List.map,vec_bare,tag_bare,op_bare]; exact rfl)) (by first | rfl | simp [vec_noP,tag_noP,op_noP]) (by first | rfl | simp [vec_noP,tag_noP,op_noP]) (by first | exact op_bare _ | rfl) ?_
      simp only [sS,↓sT,Nat.reduceLT,Nat.reduceEqDiff,↓sO,↓WOps_g,sG,opV,loudV,cellsOf,strOp,evL,Nat.reduceAdd,Int.reduceBEq,Int.reduceBNe,ti49,buildSliceV,ti52,vec_cells,all_ints,vec_load hv,load_slice,load_int,int_load,List.drop_zero,Nat.le_refl,hcl,arr_load,op_load,op_tag,op_cells,op_isC,op_full,op_len,cat_at,cat_set,range_one,op_clean,Option.isSome_some,Nat.reducePow,Nat.reduceLeDiff,TD.intK?,elemsV,List.all_cons,List.all_nil,ge_iff_le,hix,hlen,wrapI (x := (t : Int) + 1) (by omega) (by omega),hia,hlx,happ,wrapI (x := (j : Int) + 1) (by omega) (by omega)]
      refine hN26 _ ?_; try clear hN26 N26
      refine hN18 _ ?_; try clear hN18 hD18 N18
      refine WC_regN (fun N27 hN27 => ?_)
      simp only [sS,↓sT,Nat.reduceLT,Nat.reduceEqDiff,↓sO,↓WOps_g,sG,opV,loudV,cellsOf,strOp,evL,Nat.reduceAdd,Int.reduceBEq,Int.reduceBNe,vec_cells,all_ints,vec_load hv,load_slice,load_int,int_load,List.drop_zero,Nat.le_refl,hcl,arr_load,op_load,op_tag,op_cells,op_isC,op_full,op_len,cat_at,cat_set,range_one,op_clean,Option.isSome_some,Nat.reducePow,Nat.reduceLeDiff,TD.intK?,elemsV,List.all_cons,List.all_nil,ge_iff_le,hix,hlen,wrapI (x := (t : Int) + 1) (by omega) (by omega),hia,hlx,happ,wrapI (x := (j : Int) + 1) (by omega) (by omega)]
      refine hN27 _ ?_; try clear hN27 N27
      first
      | (refine ⟨(j + 1,out2 ++ [o.own]),⟨_,x',_,ow',nx',rfl,⟨rfl,rfl,rfl,rfl,rfl,rfl,rfl,rfl,trivial⟩,hso',hj, ?_, ?_⟩,by simp only; omega⟩
         · simp only
           rw [hstep,if_pos (show lackB v o = true from hb25),hout,List.append_assoc]
         · have := of_decide_eq_false hb22
           simp only [List.length_append,List.length_cons,List.length_nil]; omega)
      | (refine ⟨(j + 1,out2),⟨_,x,_,ow,nx,rfl,⟨rfl,rfl,rfl,rfl,rfl,rfl,rfl,rfl,trivial⟩,hso,hj, ?_,hmost⟩,by simp only; omega⟩
         simp only
         rw [hstep,if_neg (by rw [show lackB v o = false from hb25]; simp),List.append_nil,hout])
     ·refine WC_skip ?_
      refine hN18 _ ?_; try clear hN18 hD18 N18
      refine WC_regN (fun N28 hN28 => ?_)
      simp only [sS,↓sT,Nat.reduceLT,Nat.reduceEqDiff,↓sO,↓WOps_g,sG,opV,loudV,cellsOf,strOp,evL,Nat.reduceAdd,Int.reduceBEq,Int.reduceBNe,vec_cells,all_ints,vec_load hv,load_slice,load_int,int_load,List.drop_zero,Nat.le_refl,hcl,arr_load,op_load,op_tag,op_cells,op_isC,op_full,op_len,cat_at,cat_set,range_one,op_clean,Option.isSome_some,Nat.reducePow,Nat.reduceLeDiff,TD.intK?,elemsV,List.all_cons,List.all_nil,ge_iff_le,hix,hlen,wrapI (x := (t : Int) + 1) (by omega) (by omega),hia,hlx,happ,wrapI (x := (j : Int) + 1) (by omega) (by omega)]
      refine hN28 _ ?_; try clear hN28 N28
      first
      | (refine ⟨(j + 1,out2 ++ [o.own]),⟨_,x',_,ow',nx',rfl,⟨rfl,rfl,rfl,rfl,rfl,rfl,rfl,rfl,trivial⟩,hso',hj, ?_, ?_⟩,by simp only; omega⟩
         · simp only
           rw [hstep,if_pos (show lackB v o = true from hb25),hout,List.append_assoc]
         · have := of_decide_eq_false hb22
           simp only [List.length_append,List.length_cons,List.length_nil]; omega)
      | (refine ⟨(j + 1,out2),⟨_,x,_,ow,nx,rfl,⟨rfl,rfl,rfl,rfl,rfl,rfl,rfl,rfl,trivial⟩,hso,hj, ?_,hmost⟩,by simp only; omega⟩
         simp only
         rw [hstep,if_neg (by rw [show lackB v o = false from hb25]; simp),List.append_nil,hout])
   ·have hje : j = l.length := by have := of_decide_eq_false hb17; omega
    clear hb17
    refine WC_exit ?_
    refine hN12 _ ?_; try clear hN12 hD12 N12
    refine WC_regN (fun N29 hN29 => ?_)
    simp only [sS,↓sT,Nat.reduceLT,Nat.reduceEqDiff,↓sO,↓WOps_g,sG,opV,loudV,cellsOf,strOp,evL,Nat.reduceAdd,Int.reduceBEq,Int.reduceBNe,vec_cells,all_ints,vec_load hv,load_slice,load_int,int_load,List.drop_zero,Nat.le_refl,hcl,arr_load,op_load,op_tag,op_cells,op_isC,op_full,op_len,cat_at,cat_set,range_one,op_clean,Option.isSome_some,Nat.reducePow,Nat.reduceLeDiff,TD.intK?,elemsV,List.all_cons,List.all_nil,ge_iff_le,hix,hlen,wrapI (x := (t : Int) + 1) (by omega) (by omega)]
    refine hN29 _ ?_; try clear hN29 N29
    refine ⟨(t + 1,out2),⟨_,x,hs,ow,nx,rfl,⟨rfl,rfl,rfl,rfl,rfl,trivial⟩,hso,ht, ?_,hmost⟩,by simp only; omega⟩
    simp only
    rw [hout,part_step k1,hje,List.take_length]
  ·have ht : t = 6 := by have := of_decide_eq_false hb11; omega
   clear hb11
   refine WC_exit ?_
   refine hN7 _ ?_; try clear hN7 hD7 N7
   refine WC_seqR (fun N30 hN30 hD30 => ?_)
   simp only [sS,↓sT,Nat.reduceLT,Nat.reduceEqDiff,↓sO,↓WOps_g,sG,opV,loudV,cellsOf,strOp,evL,Nat.reduceAdd,Int.reduceBEq,Int.reduceBNe,vec_cells,all_ints,vec_load hv,load_slice,load_int,int_load,List.drop_zero,Nat.le_refl,hcl,arr_load,op_load,op_tag,op_cells,op_isC,op_full,op_len,cat_at,cat_set,range_one,op_clean,Option.isSome_some,Nat.reducePow,Nat.reduceLeDiff,TD.intK?,elemsV,List.all_cons,List.all_nil,ge_iff_le]
   refine hN30 _ ?_; try clear hN30 hD30 N30
   refine WC_sub (hso.keep hlt).2.2 ?_
   refine WC_ret ?_; (try simp only [Exit.after,Exit.out]); refine Kend_ret1 (by first | (simp only [resOf,resL,resV,mkS_get,slots_get,cellsOf,op_load,List.getElem?_cons_zero,List.getElem?_cons_succ,List.drop_zero,ti49,sS,↓sT,Nat.reduceLT,Nat.reduceEqDiff]; done) | (simp only [resOf,resL,resV,mkS_get,slots_get,cellsOf,op_load,List.getElem?_cons_zero,List.getElem?_cons_succ,List.drop_zero,ti49,sS,↓sT,Nat.reduceLT,Nat.reduceEqDiff]; rfl)) rfl (hso.keep hlt).2.1 h.noP ?_
   clear hN10 hD10 N10
   refine ⟨by rw [h.keep (fun q hq => hq)], ?_⟩
   first
   | (cases hb5; done)
   | (rw [(hso.keep hlt).1,hout,ht,sinceL,List.take_of_length_le (by rw [← ht,← hout]; exact hmost)]; done)
   | (rw [(hso.keep hlt).1,since_early k1 ht hout hmost (of_decide_eq_true hb22)]; done)
end Go.PV
/- Pools: Ops, New. -/
namespace Go.PV
open Go.Proofs
set_option linter.unusedVariables false
set_option linter.unusedSimpArgs false
set_option maxRecDepth 10000
set_option maxHeartbeats 1000000

def zeroV : List Int := [0, 0, 0, 0, 0, 0]
theorem zero_vec : V.agg [.int .i64 0, .int .i64 0, .int .i64 0, .int .i64 0, .int .i64 0, .int .i64 0] = vecV zeroV := rfl
theorem opsV_facts (l : List OpS) : (opsV l).noP = true ∧ (opsV l).toks = [] ∧ okV 1 (opsV l) = true ∧ ∀ ow, V.keep ow (opsV l) = opsV l := by
  unfold opsV
  split <;> exact ⟨rfl,rfl,rfl,fun _ => rfl⟩
theorem h__punnet_pool_Pool_Ops (Ls : List (List OpS)) (cs : List V) (h : PCt Ls cs) (hd : ∀ l ∈ Ls, ∀ o ∈ l, o.drops.l.length ≤ maxApp) (hB : ∀ l ∈ Ls, l.length ≤ 400) : VC Try.prog 32 [.ptr 0 0] [cs] (fun r hh => hh = [cs] ∧ r = opsV (sinceL Ls zeroV 400)) := by
 refine VC_enter (nt := 6) (rs := [.tmp 2]) (ow := cs.flatMap V.tokC) (m := 1) Try.func32 rfl (by rfl) rfl rfl (by simp) (by simp [ownOf,V.toks,V.cells,V.tokC]) rfl (fun n => ?_)
 simp only [zipT,Nat.zero_add]
 refine WC_seqR (fun N1 hN1 hD1 => ?_)
 simp only [sS,↓sT,Nat.reduceLT,Nat.reduceEqDiff,↓sO,↓WOps_g,sG,opV,loudV,cellsOf,strOp,evL,Nat.reduceAdd,Int.reduceBEq,Int.reduceBNe,zero_vec,ti3]
 refine hN1 _ ?_; try clear hN1 hD1 N1
 refine WC_seqR (fun N2 hN2 hD2 => ?_)
 simp only [sS,↓sT,Nat.reduceLT,Nat.reduceEqDiff,↓sO,↓WOps_g,sG,opV,loudV,cellsOf,strOp,evL,Nat.reduceAdd,Int.reduceBEq,Int.reduceBNe,buildV,evParts,V.isCell,List.all_cons,List.all_nil,Bool.and_self,if_true,placesOf,fillV,List.getElem?_cons_zero,List.getElem?_cons_succ,List.length_cons,List.length_nil,Nat.zero_add,ne_eq,not_true_eq_false,false_or,gt_iff_lt,if_false,wrL,Option.map_some,List.set_cons_zero,List.set_cons_succ,ti23,zero_vec,ti3]
 refine WOps_callH (b := 0) (o := 0) (ys := [vecV zeroV, .int .i64 400]) (cs := cs) (h__punnet_pool_Pool_Since Ls cs h zeroV rfl 400 hd hB) (by simp only [ev_func]) (by first | (simp only [evL,sS,↓sT,Nat.reduceLT,Nat.reduceEqDiff]; done) | (simp only [evL,sS,↓sT,Nat.reduceLT,Nat.reduceEqDiff]; rfl)) rfl (by intro y hy; simp only [List.mem_cons,List.not_mem_nil,or_false] at hy; rcases hy with rfl | rfl <;> rfl) (fun c hc => by obtain ⟨l,_,hl⟩ := h.mem hc; exact ⟨hl.facts.1,hl.facts.2.1⟩) (fun q hq => hq) ?_
 rintro rr h' n' ⟨rfl,rfl⟩ hnn
 refine ⟨cs,rfl,h.noP,(opsV_facts _).1, ?_⟩
 rw [(opsV_facts _).2.1,List.nil_append]
 have how2 := @back_own (cs.flatMap V.tokC) (cs.flatMap V.tokC) []
 rw [List.nil_append] at how2
 generalize ownAfter (cs.flatMap V.tokC) (cs.flatMap V.tokC) (cs.flatMap V.tokC) = ow2 at how2 ⊢
 simp only [sS,↓sT,Nat.reduceLT,Nat.reduceEqDiff,↓sO,↓WOps_g,sG,opV,loudV,cellsOf,strOp,evL,Nat.reduceAdd,Int.reduceBEq,Int.reduceBNe,buildV,evParts,V.isCell,List.all_cons,List.all_nil,Bool.and_self,if_true,placesOf,fillV,List.getElem?_cons_zero,List.getElem?_cons_succ,List.length_cons,List.length_nil,Nat.zero_add,ne_eq,not_true_eq_false,false_or,gt_iff_lt,if_false,wrL,Option.map_some,List.set_cons_zero,List.set_cons_succ,ti23,zero_vec,ti3]
 refine hN2 _ ?_; try clear hN2 hD2 N2
 refine WC_ret ?_; (try simp only [Exit.after,Exit.out]); refine Kend_ret1 (by first | (simp only [resOf,resL,resV,mkS_get,slots_get,cellsOf,op_load,List.getElem?_cons_zero,List.getElem?_cons_succ,List.drop_zero,ti49,sS,↓sT,Nat.reduceLT,Nat.reduceEqDiff]; done) | (simp only [resOf,resL,resV,mkS_get,slots_get,cellsOf,op_load,List.getElem?_cons_zero,List.getElem?_cons_succ,List.drop_zero,ti49,sS,↓sT,Nat.reduceLT,Nat.reduceEqDiff]; rfl)) rfl (opsV_facts _).2.2.1 h.noP ?_
 exact ⟨by rw [h.keep how2],(opsV_facts _).2.2.2 _⟩
end Go.PV
/- PoolFull: the plain law. -/
namespace Go.PV
open Go.Proofs
set_option linter.unusedVariables false
set_option linter.unusedSimpArgs false
set_option maxRecDepth 10000
set_option maxHeartbeats 1000000

/-- an op that clears -/
def clearO (r n t : Int) : OpS := ⟨r, n, 0, 0, t, [97], 5, [], 0, [], [], 0, false, [], Dr.nil⟩
/-- how many of the replica r, behind i in turns from f -/
def cnt (f r i : Nat) : Nat := (i + 5 - (r + 5 - f) % 6) / 6
def opAt (f r m : Nat) : OpS := clearO r ((m + 1 : Nat) : Int) ((6 * m + (r + 5 - f) % 6 + 1 : Nat) : Int)
def lst (f r i : Nat) : List OpS := (List.range (cnt f r i)).map (opAt f r)
def lsts (f i : Nat) : List (List OpS) := [lst f 1 i, lst f 2 i, lst f 3 i, lst f 4 i, lst f 5 i, lst f 6 i]
end Go.PV
/- PoolFull: what putting in turns comes to. -/
namespace Go.PV
open Go.Proofs
set_option linter.unusedVariables false
set_option linter.unusedSimpArgs false
set_option maxRecDepth 10000
set_option maxHeartbeats 1000000

end Go.PV
/- PoolFull: all ops; a new pool. -/
namespace Go.PV
open Go.Proofs
set_option linter.unusedVariables false
set_option linter.unusedSimpArgs false
set_option maxRecDepth 10000
set_option maxHeartbeats 1000000

theorem lack_zero (o : OpS) : lackB zeroV o = true := by
  have : hasB zeroV o.idR o.idN = false := by
    cases h : hasB zeroV o.idR o.idN with
    | false => rfl
    | true =>
      simp only [hasB,Bool.and_eq_true,decide_eq_true_eq] at h
      have h1 := tagB_iff.1 h.1
      have h2 : zeroV.getD (o.idR - 1).toNat 0 = 0 := by
        have : (o.idR - 1).toNat < 6 := by omega
        generalize (o.idR - 1).toNat = k at this ⊢
        match k,this with
        | 0,_ => rfl
        | 1,_ => rfl
        | 2,_ => rfl
        | 3,_ => rfl
        | 4,_ => rfl
        | 5,_ => rfl
      omega
  simp [lackB,this]
theorem lsts_zero {f : Nat} (hf : f < 6) : lsts f 0 = [[], [], [], [], [], []] := by
  have h := fun r => show lst f r 0 = [] from by
    have : cnt f r 0 = 0 := by unfold cnt; omega
    simp [lst,this]
  simp only [lsts,h]
def newC : List V := [.nils, .nils, .nils, .nils, .nils, .nils]
theorem new_PCt {f : Nat} (hf : f < 6) : PCt (lsts f 0) newC := by
  rw [lsts_zero hf]
  exact ⟨[], [], [], [], [], [],_,_,_,_,_,_,rfl,rfl, .inl ⟨rfl,rfl⟩, .inl ⟨rfl,rfl⟩, .inl ⟨rfl,rfl⟩, .inl ⟨rfl,rfl⟩, .inl ⟨rfl,rfl⟩, .inl ⟨rfl,rfl⟩⟩
theorem new_toks : newC.flatMap V.tokC = [] := rfl
theorem newC_nil {c : V} (h : c ∈ newC) : c = .nils := by
  simp only [newC,List.mem_cons,List.not_mem_nil,or_false] at h
  rcases h with rfl | rfl | rfl | rfl | rfl | rfl <;> rfl
theorem new_apart : Apart newC := ⟨fun i j c d p q hc hd hp hq _ => by
  obtain rfl := newC_nil (List.mem_of_getElem? hc)
  simp [V.tokC] at hp,fun c hc => .inl (newC_nil hc)⟩
theorem c_new : VC Try.prog 29 [] [] (fun r hh => r = .ptr 0 0 ∧ hh = [newC]) := by
  refine VC_enter (nt := 3) (rs := [.tmp 0]) (ow := []) (m := 0) Try.func29 rfl (by rfl) rfl rfl (by simp) rfl rfl (fun n => ?_)
  simp only [zipT]
  refine WC_seqR (fun N1 hN1 hD1 => ?_)
  simp only [sS,↓sT,Nat.reduceLT,Nat.reduceEqDiff,↓sO,↓WOps_g,sG,opV,loudV,cellsOf,strOp,evL,Nat.reduceAdd,Int.reduceBEq,Int.reduceBNe]
  refine hN1 _ ?_; try clear hN1 hD1 N1
  refine WC_seqR (fun N2 hN2 hD2 => ?_)
  simp only [sS,↓sT,Nat.reduceLT,Nat.reduceEqDiff,↓sO,↓WOps_g,sG,opV,loudV,cellsOf,strOp,evL,Nat.reduceAdd,Int.reduceBEq,Int.reduceBNe,buildV,evParts,V.isCell,List.all_cons,List.all_nil,Bool.and_self,if_true,placesOf,fillV,List.getElem?_cons_zero,List.getElem?_cons_succ,List.length_cons,List.length_nil,Nat.zero_add,ne_eq,not_true_eq_false,false_or,gt_iff_lt,if_false,wrL,Option.map_some,List.set_cons_zero,List.set_cons_succ,ti82,ti80]
  refine hN2 _ ?_; try clear hN2 hD2 N2
  refine WC_ret ?_
  exact ⟨.inr rfl, .ptr 0 0,1,rfl,Nat.zero_le _,Nat.le_refl _, .inl rfl,rfl,rfl⟩
section
variable {P : Program} {ops : Array Oper} {os : List Oper} {K : St → Prop} {s : St} {dst : Option Tmp} {ty : TypeId} {pos : String} {after : Array Edge}
/-- a call without arguments that hands back a new block -/
theorem WOps_callN {f : Operand} {args : Array Operand} {ts : Array TypeId} {C : List V} {fid : Nat} (c : VC P fid [] [] (fun r hh => r = .ptr 0 0 ∧ hh = [C])) (hf : ev s f = some (.func (.func fid) [])) (hx : evL s args.toList = some [])
    (hC : ∀ c ∈ C,c.noP0 = true) (ht : C.flatMap V.tokC = []) (k : ∀ n',s.next ≤ n' → WOps P ops os K (St.put ⟨s.slots,s.heap ++ [C],s.own,n'⟩ dst (.ptr s.heap.length 0))) :
    WOps P ops (⟨dst, .call ⟨.value f,args,ts⟩,ty,pos,after,none⟩ :: os) K s := by
  simp only [WOps,WOp,WOp1]
  unfold WRun
  simp only [opV,loudV]
  refine ⟨fid, [],_,hf,hx, .ref [] [] [] _ c trivial (by simp) trivial (fun q hq => by simp [ownOf] at hq) trivial (fun h => absurd rfl h) ?_⟩
  rintro r h' n' ⟨rfl,rfl⟩ hn _
  have e1 : ren (rhoAfter s.heap.length [] 1) (.ptr 0 0) = .ptr s.heap.length 0 := by simp [rhoAfter,ren,ren1,renC,renP]
  have e2 : heapAfter s.heap [] [C] = s.heap ++ [C] := by simp [heapAfter,setAll,map_renC hC]
  have e3 : ownAfter s.own (ownOf [] []) (ownOf [.ptr 0 0] [C]) = s.own := by
    have : ownOf [.ptr 0 0] [C] = [] := by simp only [ownOf,List.flatMap_cons,List.flatMap_nil,List.append_nil,ht]; rfl
    rw [this]; simp [ownAfter,ownOf]
  have e4 : [C].length = 1 := rfl
  rw [e4,e1,e2,e3]
  exact k n' hn
end
/-- the tokens of a block may be given up -/
theorem WC_bare {c : Code} {K : Exit → St → Prop} {sl : List V} {h : List (List V)} {ow : List (Nat × Nat)} {nx b : Nat} {cs : List V} (hb : h[b]? = some cs) (k : WC Try.prog c K ⟨sl, h.set b (cs.map V.bareC), ow, nx⟩) : WC Try.prog c K ⟨sl, h, ow, nx⟩ := by
  intro w0 G0 a w Q hc hQ
  refine k w0 G0 a w Q ?_ hQ
  obtain ⟨G,hsr,I,hd⟩ := hc
  refine ⟨G,hsr,⟨⟨by rw [List.length_set]; exact I.heap.nb,fun i ds hi => ?_,I.heap.inj,I.heap.notS⟩,I.own,I.sok,I.since,I.mono,I.nx⟩,hd⟩
  rw [List.getElem?_set] at hi
  split at hi
  · rename_i h1
    subst h1
    split at hi
    · obtain rfl := Option.some.inj hi
      obtain ⟨arr,e,h1,h2,h3⟩ := I.heap.blk b cs hb
      refine ⟨arr,e,h1,by rw [List.length_map]; exact h2,fun k y hk => ?_⟩
      rw [List.getElem?_map] at hk
      obtain ⟨z,hz,rfl⟩ := Option.map_eq_some_iff.1 hk
      obtain ⟨h4,h5⟩ := h3 k z hz
      exact ⟨by cases z <;> first | exact h4 | rfl,h5.bareC⟩
    · cases hi
  · exact I.heap.blk i ds hi
theorem PCt.bareW {Ls : List (List OpS)} {cs : List V} (h : PCt Ls cs) : PCt Ls (cs.map V.bareC) := by
  obtain ⟨l0,l1,l2,l3,l4,l5,c0,c1,c2,c3,c4,c5,rfl,rfl,h0,h1,h2,h3,h4,h5⟩ := h
  have key : ∀ {l : List OpS} {c : V},PT l c → PT l c.bareC := fun h => by
    rcases h with ⟨rfl,rfl⟩ | ⟨tok,rfl⟩
    · exact .inl ⟨rfl,rfl⟩
    · exact .inr ⟨none,rfl⟩
  exact ⟨_,_,_,_,_,_,_,_,_,_,_,_,rfl,rfl,key h0,key h1,key h2,key h3,key h4,key h5⟩
theorem bareW_toks {Ls : List (List OpS)} {cs : List V} (h : PCt Ls cs) : (cs.map V.bareC).flatMap V.tokC = [] := by
  rw [List.flatMap_eq_nil_iff]
  intro y hy
  obtain ⟨c,hc,rfl⟩ := List.mem_map.1 hy
  obtain ⟨l,_,hl⟩ := h.mem hc
  rcases hl with ⟨rfl,rfl⟩ | ⟨tok,rfl⟩ <;> rfl
end Go.PV
/- Pools: Put of any op; a pool that isn't there; calls that are run. -/
namespace Go.PV
open Go.Proofs
set_option linter.unusedVariables false
set_option linter.unusedSimpArgs false
set_option maxRecDepth 10000
set_option maxHeartbeats 1000000

section
variable {ops : Array Oper} {os : List Oper} {K : St → Prop} {s : St} {dst : Option Tmp} {ty : TypeId} {pos : String} {after : Array Edge}
end
namespace N
theorem h__punnet_pool_Pool_Put (Ls : List (List OpS)) (cs : List V) (h : PCt Ls cs) (ha : Apart cs) (o : OpS) (hR : rightS o = false) (hL : o.dropsL.length ≤ 4611686018427387904) : VC Try.prog 30 [.ptr 0 0, opW o] [cs] (fun r hh => r = .int .i64 (putS Ls o).1 ∧ ∃ cs', hh = [cs'] ∧ PCt (putS Ls o).2 cs' ∧ Apart cs') := by
 refine VC_enter (nt := 60) (rs := [.tmp 4]) (ow := cs.flatMap V.tokC) (m := 1) Try.func30 rfl (by rfl) rfl rfl (by simp) (by simp only [ownOf,List.flatMap_cons,List.flatMap_nil,op_toks,List.append_nil]; rfl) rfl (fun n => ?_)
 simp only [zipT,Nat.zero_add]
 have cR := c_punnet_op_Right o hL
 rw [hR] at cR
 have hspec : putS Ls o = (5,Ls) := by rw [putS,if_pos hR]
 refine WC_seqR (fun N1 hN1 hD1 => ?_)
 simp only [sS,↓sT,Nat.reduceLT,Nat.reduceEqDiff,↓sO,↓WOps_g,sG,opV,loudV,cellsOf,strOp,evL,Nat.reduceAdd,Int.reduceBEq,Int.reduceBNe,op_clean,op_len,op_cells,opCells,List.all_cons,List.all_nil,icell_int,icell_str,icell_bool,dropsW_isC,Bool.and_self,load_slice,load_int,load_str,load_bool,tag_load2,load15,int_load,List.drop_zero,Nat.le_refl]
 refine hN1 _ ?_; try clear hN1 hD1 N1
 refine WC_seqN (fun N2 hN2 hD2 => ?_)
 refine WC_seqR (fun N3 hN3 hD3 => ?_)
 simp only [sS,↓sT,Nat.reduceLT,Nat.reduceEqDiff,↓sO,↓WOps_g,sG,opV,loudV,cellsOf,strOp,evL,Nat.reduceAdd,Int.reduceBEq,Int.reduceBNe,op_clean,op_len,op_cells,opCells,List.all_cons,List.all_nil,icell_int,icell_str,icell_bool,dropsW_isC,Bool.and_self,load_slice,load_int,load_str,load_bool,tag_load2,load15,int_load,List.drop_zero,Nat.le_refl]
 refine hN3 _ ?_; try clear hN3 hD3 N3
 refine WC_condE ?_
 simp only [sS,↓sT,Nat.reduceLT,Nat.reduceEqDiff,↓stepC_bool]
 refine ⟨fun hb4 => ?_,fun hb4 => ?_⟩
 ·exact absurd hb4 (by simp)
 ·refine WC_skip ?_
  refine hN2 _ ?_; try clear hN2 hD2 N2
  refine WC_seqN (fun N5 hN5 hD5 => ?_)
  refine WC_seqR (fun N6 hN6 hD6 => ?_)
  simp only [sS,↓sT,Nat.reduceLT,Nat.reduceEqDiff,↓sO,↓WOps_g,sG,opV,loudV,cellsOf,strOp,evL,Nat.reduceAdd,Int.reduceBEq,Int.reduceBNe,ti49,op_clean,op_len,op_cells,opCells,List.all_cons,List.all_nil,icell_int,icell_str,icell_bool,dropsW_isC,Bool.and_self,load_slice,load_int,load_str,load_bool,tag_load2,load15,int_load,List.drop_zero,Nat.le_refl,hb4]
  refine WOps_callP cR (by simp only [ev_func]) (by simp only [evL,sS,↓sT,Nat.reduceLT,Nat.reduceEqDiff]; rfl) (by first | rfl | (simp only [List.map,op_bare]; done) | (simp only [List.map,op_bare]; exact rfl)) (by first | rfl | simp [op_noP]) (by first | rfl | simp [op_noP]) (by first | exact op_bare _ | rfl) ?_
  simp only [sS,↓sT,Nat.reduceLT,Nat.reduceEqDiff,↓sO,↓WOps_g,sG,opV,loudV,cellsOf,strOp,evL,Nat.reduceAdd,Int.reduceBEq,Int.reduceBNe,ti49,op_clean,op_len,op_cells,opCells,List.all_cons,List.all_nil,icell_int,icell_str,icell_bool,dropsW_isC,Bool.and_self,load_slice,load_int,load_str,load_bool,tag_load2,load15,int_load,List.drop_zero,Nat.le_refl,hb4]
  refine hN6 _ ?_; try clear hN6 hD6 N6
  refine WC_condE ?_
  simp only [sS,↓sT,Nat.reduceLT,Nat.reduceEqDiff,↓stepC_bool,hb4,Int.reduceBEq,Int.reduceBNe,beq_self_eq_true,bne_self_eq_false]
  refine ⟨fun hb7 => ?_,fun hb7 => ?_⟩
  ·refine WC_seqR (fun N8 hN8 hD8 => ?_)
   simp only [sS,↓sT,Nat.reduceLT,Nat.reduceEqDiff,↓sO,↓WOps_g,sG,opV,loudV,cellsOf,strOp,evL,Nat.reduceAdd,Int.reduceBEq,Int.reduceBNe,op_clean,op_len,op_cells,opCells,List.all_cons,List.all_nil,icell_int,icell_str,icell_bool,dropsW_isC,Bool.and_self,load_slice,load_int,load_str,load_bool,tag_load2,load15,int_load,List.drop_zero,Nat.le_refl,hb4,hb7]
   refine hN8 _ ?_; try clear hN8 hD8 N8
   refine WC_ret ?_; (try simp only [Exit.after,Exit.out]); refine Kend_ret1 (by simp only [resOf,resL,resV,mkS_get,slots_get,cellsOf,op_load,List.getElem?_cons_zero,List.getElem?_cons_succ,List.drop_zero,ti49,sS,↓sT,Nat.reduceLT,Nat.reduceEqDiff]; rfl) rfl (by first | rfl | (simp only [op_load,List.getElem?_cons_zero,List.getElem?_cons_succ,List.drop_zero,ti49]; done)) (by exact h.noP) ?_
   clear hN5 hD5 N5
   rw [hspec]; exact ⟨rfl,cs,by rw [h.keep (fun q hq => hq)],h,ha⟩
  ·exact absurd hb7 (by simp)
end N
/-- Put, whatever the op -/
theorem put_any {Ls : List (List OpS)} {cs : List V} (h : PCt Ls cs) (ha : Apart cs) (o : OpS) (hL : o.dropsL.length ≤ 4611686018427387904) (hd : ∀ l ∈ Ls, ∀ o ∈ l, o.drops.l.length ≤ maxApp) (hB : ∀ l ∈ Ls, l.length ≤ 400) :
    VC Try.prog 30 [.ptr 0 0,opW o] [cs] (fun r hh => r = .int .i64 (putS Ls o).1 ∧ ∃ cs',hh = [cs'] ∧ PCt (putS Ls o).2 cs' ∧ Apart cs') := by
  cases hR : rightS o with
  | true => exact h__punnet_pool_Pool_Put Ls cs h ha o hR hL hd hB
  | false => exact N.h__punnet_pool_Pool_Put Ls cs h ha o hR hL
theorem op_bare1 (o : OpS) : [opW o].map V.bare1 = [opW o] := by
  have h := op_bare o
  simp only [List.map_cons,List.map_nil]
  exact congrArg (fun x => [x]) h
theorem put_any1 {Ls : List (List OpS)} {cs : List V} (h : PCt Ls cs) (ha : Apart cs) (o : OpS) (hL : o.dropsL.length ≤ 4611686018427387904) (hd : ∀ l ∈ Ls, ∀ o ∈ l, o.drops.l.length ≤ maxApp) (hB : ∀ l ∈ Ls, l.length ≤ 400) :
    VC Try.prog 30 (.ptr 0 0 :: [opW o].map V.bare1) [cs] (fun r hh => r = .int .i64 (putS Ls o).1 ∧ ∃ cs',hh = [cs'] ∧ PCt (putS Ls o).2 cs' ∧ Apart cs') := by
  rw [op_bare1]; exact put_any h ha o hL hd hB
/-! ## a pool that isn't there -/
end Go.PV
/- Arguments: ops, tags, vectors. -/
namespace Go.PV
open Go.Proofs
section
variable {H : Type} {enc : TypeId × Value → H} {W : World}
theorem so_int : ShC enc Try.prog W 3 (fun n : Int => [V.int .i64 n]) (fun n => (Lit.int .i64 n).wf = true) := ShC.int Try.underlying3
theorem so_int64 : ShC enc Try.prog W 2 (fun n : Int => [V.int .i64 n]) (fun n => (Lit.int .i64 n).wf = true) := ShC.int Try.underlying2
theorem so_bool : ShC enc Try.prog W 4 (fun b : Bool => [V.bool b]) (fun _ => True) := ShC.bool Try.underlying4
theorem so_str : ShC enc Try.prog W 9 (fun s : List UInt8 => [V.str s]) (fun s => s.length ≤ maxLen) := ShC.str Try.underlying9
theorem so_tag : ShC enc Try.prog W 25 (fun q : Int × Int => [V.int .i64 q.1, V.int .i64 q.2]) (fun _ => True) :=
  (ShC.struct (sz := 2) Try.underlying25 (by kernel_rfl) (ShF.cons (o := 0) (c := 1) (sz := 1) so_int rfl (by kernel_rfl) (ShF.cons (o := 1) (c := 1) (sz := 0) so_int rfl (by kernel_rfl) (ShF.nil 2)))).map
    (fun q => (q.1,q.2.1)) fun q _ => ⟨rfl,trivial⟩
theorem so_vec : ShC enc Try.prog W 23 (fun v : List Int => v.map (V.int .i64)) (fun v => v.length = 6) :=
  (ShC.arr so_int Try.underlying23 (by kernel_rfl)).map (fun v => v) fun v hv => ⟨by
    clear hv
    induction v with
    | nil => rfl
    | cons x v ih => simp only [List.flatMap_cons,List.map_cons,ih]; rfl,hv.1⟩
def drOf : Option (List (Int × Int)) → Dr
  | none => Dr.nil
  | some l => ⟨l, .slice 2 (l.map tagE) false none, .inr ⟨false,rfl⟩⟩
theorem so_tags : ShC enc Try.prog W 38 (fun q : Dr => [dropsW q]) (fun q => q.l.length ≤ maxLen) :=
  (ShC.slice so_tag (sz := 2) Try.underlying38 (by kernel_rfl) (by decide) tagE fun q _ => ⟨rfl,rfl,rfl⟩).map drOf fun q hq => by
    cases q with
    | none => exact ⟨rfl,by simp [drOf,Dr.nil]⟩
    | some l => exact ⟨rfl,(hq l rfl).1⟩
theorem so_ref : ShC enc Try.prog W 47 (fun q : Int × List UInt8 × List UInt8 × Unit => [V.int .i64 q.1] ++ ([V.str q.2.1] ++ ([V.str q.2.2.1] ++ []))) (fun q => (Lit.int .i64 q.1).wf = true ∧ q.2.1.length ≤ maxLen ∧ q.2.2.1.length ≤ maxLen ∧ True) :=
  (ShC.struct (sz := 3) Try.underlying47 (by kernel_rfl) (ShF.cons (o := 0) (c := 1) (sz := 2) so_int rfl (by kernel_rfl) (ShF.cons (o := 1) (c := 1) (sz := 1) so_str rfl (by kernel_rfl) (ShF.cons (o := 2) (c := 1) (sz := 0) so_str rfl (by kernel_rfl) (ShF.nil 3))))).map (fun q => q) fun q hq => ⟨rfl,hq⟩
theorem so_op : ShC enc Try.prog W 49 opCells OpOk :=
  (ShC.struct (sz := 15) Try.underlying49 (by kernel_rfl)
    (ShF.cons (o := 0) (c := 2) (sz := 13) so_tag rfl (by kernel_rfl)
    (ShF.cons (o := 2) (c := 2) (sz := 11) so_tag rfl (by kernel_rfl)
    (ShF.cons (o := 4) (c := 1) (sz := 10) so_int64 rfl (by kernel_rfl)
    (ShF.cons (o := 5) (c := 1) (sz := 9) so_str rfl (by kernel_rfl)
    (ShF.cons (o := 6) (c := 1) (sz := 8) so_int rfl (by kernel_rfl)
    (ShF.cons (o := 7) (c := 1) (sz := 7) so_str rfl (by kernel_rfl)
    (ShF.cons (o := 8) (c := 3) (sz := 4) so_ref rfl (by kernel_rfl)
    (ShF.cons (o := 11) (c := 1) (sz := 3) so_int64 rfl (by kernel_rfl)
    (ShF.cons (o := 12) (c := 1) (sz := 2) so_bool rfl (by kernel_rfl)
    (ShF.cons (o := 13) (c := 1) (sz := 1) so_str rfl (by kernel_rfl)
    (ShF.cons (o := 14) (c := 1) (sz := 0) so_tags rfl (by kernel_rfl) (ShF.nil 15))))))))))))).map
    (fun q => match q with | (i,s,t,c,k,m,r,d,h,x,p,_) => ⟨i.1,i.2,s.1,s.2,t,c,k,m,r.1,r.2.1,r.2.2.1,d,h,x,p⟩) fun q hq => by
      obtain ⟨i,s,t,c,k,m,r,d,h,x,p,u⟩ := q
      obtain ⟨_,_,_,h4,_,h6,h7,_,_,h10,h11,_⟩ := hq
      have hM : maxLen ≤ 9223372036854775807 := by decide
      exact ⟨rfl,⟨Nat.le_trans h4 hM,Nat.le_trans h6 hM,Nat.le_trans h7.2.1 hM,Nat.le_trans h7.2.2.1 hM,Nat.le_trans h10 hM,Nat.le_trans h11 hM⟩⟩
end
end Go.PV
/- Lists of ops as arguments: HeavyOps, SameOps. -/
namespace Go.PV
open Go.Proofs
set_option linter.unusedVariables false
set_option linter.unusedSimpArgs false
set_option maxRecDepth 10000
set_option maxHeartbeats 1000000

theorem PS.bare {l : List OpS} {c : V} (h : PS l c) : c.bare = c := by rcases h with ⟨rfl, rfl⟩ | ⟨ex, rfl⟩ <;> rfl
theorem PS.noP {l : List OpS} {c : V} (h : PS l c) : c.noP = true := by rcases h with ⟨rfl, rfl⟩ | ⟨ex, rfl⟩ <;> rfl
theorem PS.toks {l : List OpS} {c : V} (h : PS l c) : c.toks = [] := by rcases h with ⟨rfl, rfl⟩ | ⟨ex, rfl⟩ <;> rfl
theorem PS.len {l : List OpS} {c : V} (h : PS l c) : lenV Try.prog 52 c = some (.int .i64 l.length) := by
  rcases h with ⟨rfl,rfl⟩ | ⟨ex,rfl⟩ <;> simp [lenV,ti52]
theorem opsV_PS (l : List OpS) : PS l (opsV l) := by
  unfold opsV
  split
  · rename_i h; exact .inl ⟨List.isEmpty_iff.1 h,rfl⟩
  · exact .inr ⟨false,rfl⟩
def heavyOps (l : List OpS) (m : Int) : Bool := decide (m < (l.length : Int)) || l.any heavyB
theorem c_punnet_punnetref22_HeavyOps (l : List OpS) (x : V) (hx : PS l x) (m : Int) (hl : l.length ≤ maxLen) : VC Try.prog 33 [x, .int .i64 m] [] (fun r _ => r = .bool (heavyOps l m)) := by
 refine VC_enter (nt := 21) (rs := [.tmp 4]) (ow := []) (m := 0) Try.func33 rfl (by rfl) rfl rfl (by simp) (by simp only [ownOf,List.flatMap_cons,List.flatMap_nil,hx.toks,List.append_nil]; rfl) rfl (fun n => ?_)
 simp only [zipT,Nat.zero_add]
 have hx1 := True.intro
 have hi := True.intro
 have hw := True.intro
 refine WC_seqR (fun N1 hN1 hD1 => ?_)
 simp only [sS,↓sT,Nat.reduceLT,Nat.reduceEqDiff,↓sO,↓WOps_g,sG,opV,loudV,cellsOf,strOp,evL,Nat.reduceAdd,Int.reduceBEq,Int.reduceBNe,hx.len,hx1,hi,hw,op_load,gt_iff_lt,ti3,ti49]
 refine hN1 _ ?_; try clear hN1 hD1 N1
 refine WC_seqN (fun N2 hN2 hD2 => ?_)
 refine WC_seqR (fun N3 hN3 hD3 => ?_)
 simp only [sS,↓sT,Nat.reduceLT,Nat.reduceEqDiff,↓sO,↓WOps_g,sG,opV,loudV,cellsOf,strOp,evL,Nat.reduceAdd,Int.reduceBEq,Int.reduceBNe,ti52,hx.len,hx1,hi,hw,op_load,gt_iff_lt,ti3,ti49]
 refine hN3 _ ?_; try clear hN3 hD3 N3
 refine WC_condE ?_
 simp only [sS,↓sT,Nat.reduceLT,Nat.reduceEqDiff,↓stepC_bool]
 refine ⟨fun hb4 => ?_,fun hb4 => ?_⟩
 ·refine WC_seqR (fun N5 hN5 hD5 => ?_)
  simp only [sS,↓sT,Nat.reduceLT,Nat.reduceEqDiff,↓sO,↓WOps_g,sG,opV,loudV,cellsOf,strOp,evL,Nat.reduceAdd,Int.reduceBEq,Int.reduceBNe,hx.len,hx1,hi,hw,op_load,gt_iff_lt,ti3,ti49]
  refine hN5 _ ?_; try clear hN5 hD5 N5
  refine WC_ret ?_; (try simp only [Exit.after,Exit.out]); refine Kend_ret (by simp only [resOf,resL,resV,mkS_get,slots_get,cellsOf,op_load,ti3,ti52,ti49,sS,↓sT,Nat.reduceLT,Nat.reduceEqDiff]; rfl) (by first | rfl | (simp only [op_load,ti3,ti52,ti49]; done) | (simp only [op_load,ti3,ti52,ti49,okV,ok1,okC,okP,List.all_cons,List.all_nil,Bool.and_true]; done)) ?_
  clear hN2 hD2 N2
  first
  | (rw [keep_bool,heavyOps,hb4]; rfl)
  | (rw [keep_bool,hspec]; congr 1; symm; exact List.any_eq_true.2 ⟨o,List.mem_of_getElem? ho,hb13⟩)
  | (rw [keep_bool,hspec]; congr 1
     have ht : t = l.length := by have := of_decide_eq_false hb10; omega
     rw [ht,List.take_length] at hh; exact hh.symm)
 ·refine WC_skip ?_
  refine hN2 _ ?_; try clear hN2 hD2 N2
  refine WC_seqN (fun N6 hN6 hD6 => ?_)
  refine WC_seqR (fun N7 hN7 hD7 => ?_)
  simp only [sS,↓sT,Nat.reduceLT,Nat.reduceEqDiff,↓sO,↓WOps_g,sG,opV,loudV,cellsOf,strOp,evL,Nat.reduceAdd,Int.reduceBEq,Int.reduceBNe,hx.len,hx1,hi,hw,op_load,gt_iff_lt,ti3,ti49]
  refine hN7 _ ?_; try clear hN7 hD7 N7
  refine WC_block ?_
  have hm : ¬ (m < (l.length : Int)) := of_decide_eq_false hb4
  have hspec : heavyOps l m = l.any heavyB := by rw [heavyOps,decide_eq_false hm,Bool.false_or]
  refine WC_loopG (σ := Nat) (fun t s => ∃ ps,s = ⟨mkS 21 ps, [], [],n⟩ ∧ Has ps [(0,x),(5, .int .i64 t)] ∧ t ≤ l.length ∧ (l.take t).any heavyB = false) (fun t => l.length - t) 0 ?_ (fun t s hI => ?_)
  · exact ⟨_,rfl,⟨rfl,rfl,trivial⟩,Nat.zero_le _,rfl⟩
  obtain ⟨ps,rfl,hps,htl,hh⟩ := hI
  refine WC_has hps ?_; clear hps ps
  refine WC_seqN (fun N8 hN8 hD8 => ?_)
  refine WC_seqR (fun N9 hN9 hD9 => ?_)
  simp only [sS,↓sT,Nat.reduceLT,Nat.reduceEqDiff,↓sO,↓WOps_g,sG,opV,loudV,cellsOf,strOp,evL,Nat.reduceAdd,Int.reduceBEq,Int.reduceBNe,ti52,hx.len,hx1,hi,hw,op_load,gt_iff_lt,ti3,ti49]
  refine hN9 _ ?_; try clear hN9 hD9 N9
  refine WC_condE ?_
  simp only [sS,↓sT,Nat.reduceLT,Nat.reduceEqDiff,↓stepC_bool]
  refine ⟨fun hb10 => ?_,fun hb10 => ?_⟩
  ·have ht : t < l.length := by have := of_decide_eq_true hb10; omega
   obtain ⟨o,ho⟩ : ∃ o,l[t]? = some o := ⟨_,List.getElem?_eq_getElem ht⟩
   have hi := hx.ia ho
   have hw : IntKind.i64.wrap ((t : Int) + 1) = (t : Int) + 1 := wrapI (by unfold maxLen at hl; omega) (by unfold maxLen at hl; omega)
   refine WC_skip ?_
   refine hN8 _ ?_; try clear hN8 hD8 N8
   refine WC_seqN (fun N11 hN11 hD11 => ?_)
   refine WC_block ?_
   refine WC_seqR (fun N12 hN12 hD12 => ?_)
   simp only [sS,↓sT,Nat.reduceLT,Nat.reduceEqDiff,↓sO,↓WOps_g,sG,opV,loudV,cellsOf,strOp,evL,Nat.reduceAdd,Int.reduceBEq,Int.reduceBNe,ti52,ti49,hx.len,hx1,hi,hw,op_load,gt_iff_lt,ti3]
   refine WOps_callP (c_punnet_punnetref20_Heavy o) (by simp only [ev_func]) (by simp only [evL,sS,↓sT,Nat.reduceLT,Nat.reduceEqDiff]; rfl) (by first | rfl | (simp only [List.map,op_bare]; done) | (simp only [List.map,op_bare]; exact rfl)) (by first | rfl | simp [op_noP]) (by first | rfl | simp [op_noP]) rfl ?_
   simp only [sS,↓sT,Nat.reduceLT,Nat.reduceEqDiff,↓sO,↓WOps_g,sG,opV,loudV,cellsOf,strOp,evL,Nat.reduceAdd,Int.reduceBEq,Int.reduceBNe,ti52,ti49,hx.len,hx1,hi,hw,op_load,gt_iff_lt,ti3]
   refine hN12 _ ?_; try clear hN12 hD12 N12
   refine WC_condE ?_
   simp only [sS,↓sT,Nat.reduceLT,Nat.reduceEqDiff,↓stepC_bool]
   refine ⟨fun hb13 => ?_,fun hb13 => ?_⟩
   ·refine WC_seqR (fun N14 hN14 hD14 => ?_)
    simp only [sS,↓sT,Nat.reduceLT,Nat.reduceEqDiff,↓sO,↓WOps_g,sG,opV,loudV,cellsOf,strOp,evL,Nat.reduceAdd,Int.reduceBEq,Int.reduceBNe,hx.len,hx1,hi,hw,op_load,gt_iff_lt,ti3,ti49]
    refine hN14 _ ?_; try clear hN14 hD14 N14
    refine WC_ret ?_; (try simp only [Exit.after,Exit.out]); refine Kend_ret (by simp only [resOf,resL,resV,mkS_get,slots_get,cellsOf,op_load,ti3,ti52,ti49,sS,↓sT,Nat.reduceLT,Nat.reduceEqDiff]; rfl) (by first | rfl | (simp only [op_load,ti3,ti52,ti49]; done) | (simp only [op_load,ti3,ti52,ti49,okV,ok1,okC,okP,List.all_cons,List.all_nil,Bool.and_true]; done)) ?_
    clear hN11 hD11 N11 hN6 hD6 N6
    first
    | (rw [keep_bool,heavyOps,hb4]; rfl)
    | (rw [keep_bool,hspec]; congr 1; symm; exact List.any_eq_true.2 ⟨o,List.mem_of_getElem? ho,hb13⟩)
    | (rw [keep_bool,hspec]; congr 1
       have ht : t = l.length := by have := of_decide_eq_false hb10; omega
       rw [ht,List.take_length] at hh; exact hh.symm)
   ·refine WC_skip ?_
    refine hN11 _ ?_; try clear hN11 hD11 N11
    refine WC_regN (fun N15 hN15 => ?_)
    simp only [sS,↓sT,Nat.reduceLT,Nat.reduceEqDiff,↓sO,↓WOps_g,sG,opV,loudV,cellsOf,strOp,evL,Nat.reduceAdd,Int.reduceBEq,Int.reduceBNe,hx.len,hx1,hi,hw,op_load,gt_iff_lt,ti3,ti49]
    refine hN15 _ ?_; try clear hN15 N15
    refine ⟨t + 1,⟨_,rfl,⟨rfl,rfl,trivial⟩,ht, ?_⟩,by omega⟩
    rw [List.take_add_one,ho,Option.toList_some,List.any_append,hh,Bool.false_or,List.any_cons,List.any_nil,Bool.or_false]
    simpa using hb13
  ·refine WC_exit ?_
   refine hN6 _ ?_; try clear hN6 hD6 N6
   refine WC_seqR (fun N16 hN16 hD16 => ?_)
   simp only [sS,↓sT,Nat.reduceLT,Nat.reduceEqDiff,↓sO,↓WOps_g,sG,opV,loudV,cellsOf,strOp,evL,Nat.reduceAdd,Int.reduceBEq,Int.reduceBNe,hx.len,hx1,hi,hw,op_load,gt_iff_lt,ti3,ti49]
   refine hN16 _ ?_; try clear hN16 hD16 N16
   refine WC_ret ?_; (try simp only [Exit.after,Exit.out]); refine Kend_ret (by simp only [resOf,resL,resV,mkS_get,slots_get,cellsOf,op_load,ti3,ti52,ti49,sS,↓sT,Nat.reduceLT,Nat.reduceEqDiff]; rfl) (by first | rfl | (simp only [op_load,ti3,ti52,ti49]; done) | (simp only [op_load,ti3,ti52,ti49,okV,ok1,okC,okP,List.all_cons,List.all_nil,Bool.and_true]; done)) ?_
   clear hN8 hD8 N8
   first
   | (rw [keep_bool,heavyOps,hb4]; rfl)
   | (rw [keep_bool,hspec]; congr 1; symm; exact List.any_eq_true.2 ⟨o,List.mem_of_getElem? ho,hb13⟩)
   | (rw [keep_bool,hspec]; congr 1
      have ht : t = l.length := by have := of_decide_eq_false hb10; omega
      rw [ht,List.take_length] at hh; exact hh.symm)
def sameOps (a b : List OpS) : Bool := (a.length == b.length) && (List.zipWith sameO a b).all id
theorem sameO_refl (o : OpS) : sameO o o = true := by simp [sameO]
theorem sameOps_refl (a : List OpS) : sameOps a a = true := by
  simp only [sameOps,beq_self_eq_true,Bool.true_and,List.all_eq_true]
  intro b hb
  rw [List.zipWith_self] at hb
  obtain ⟨o,_,rfl⟩ := List.mem_map.1 hb
  exact sameO_refl o
theorem c_punnet_punnetref20_SameOps (a b : List OpS) (x y : V) (hx : PS a x) (hy : PS b y) (hl : a.length ≤ maxLen) (hd : ∀ o ∈ a, o.dropsL.length ≤ 4611686018427387904) : VC Try.prog 34 [x, y] [] (fun r _ => r = .bool (sameOps a b)) := by
 refine VC_enter (nt := 27) (rs := [.tmp 4]) (ow := []) (m := 0) Try.func34 rfl (by rfl) rfl rfl (by simp) (by simp only [ownOf,List.flatMap_cons,List.flatMap_nil,hx.toks,hy.toks,List.append_nil]) rfl (fun n => ?_)
 simp only [zipT,Nat.zero_add]
 have hx1 := True.intro
 have hi := True.intro
 have hj := True.intro
 have hw := True.intro
 refine WC_seqR (fun N1 hN1 hD1 => ?_)
 simp only [sS,↓sT,Nat.reduceLT,Nat.reduceEqDiff,↓sO,↓WOps_g,sG,opV,loudV,cellsOf,strOp,evL,Nat.reduceAdd,Int.reduceBEq,Int.reduceBNe,hx.len,hy.len,hx1,hi,hj,hw,op_load,ti3,ti49]
 refine hN1 _ ?_; try clear hN1 hD1 N1
 refine WC_seqN (fun N2 hN2 hD2 => ?_)
 refine WC_seqR (fun N3 hN3 hD3 => ?_)
 simp only [sS,↓sT,Nat.reduceLT,Nat.reduceEqDiff,↓sO,↓WOps_g,sG,opV,loudV,cellsOf,strOp,evL,Nat.reduceAdd,Int.reduceBEq,Int.reduceBNe,ti52,hx.len,hy.len,hx1,hi,hj,hw,op_load,ti3,ti49]
 refine hN3 _ ?_; try clear hN3 hD3 N3
 refine WC_condE ?_
 simp only [sS,↓sT,Nat.reduceLT,Nat.reduceEqDiff,↓stepC_bool]
 refine ⟨fun hb4 => ?_,fun hb4 => ?_⟩
 ·refine WC_seqR (fun N5 hN5 hD5 => ?_)
  simp only [sS,↓sT,Nat.reduceLT,Nat.reduceEqDiff,↓sO,↓WOps_g,sG,opV,loudV,cellsOf,strOp,evL,Nat.reduceAdd,Int.reduceBEq,Int.reduceBNe,hx.len,hy.len,hx1,hi,hj,hw,op_load,ti3,ti49]
  refine hN5 _ ?_; try clear hN5 hD5 N5
  refine WC_ret ?_; (try simp only [Exit.after,Exit.out]); refine Kend_ret (by simp only [resOf,resL,resV,mkS_get,slots_get,cellsOf,op_load,ti3,ti52,ti49,sS,↓sT,Nat.reduceLT,Nat.reduceEqDiff]; rfl) (by first | rfl | (simp only [op_load,ti3,ti52,ti49]; done) | (simp only [op_load,ti3,ti52,ti49,okV,ok1,okC,okP,List.all_cons,List.all_nil,Bool.and_true]; done)) ?_
  clear hN2 hD2 N2
  first
  | (rw [keep_bool]; congr 1; symm
     have h0 : (a.length == b.length) = false := by simp at hb4 ⊢; omega
     rw [sameOps,h0]; rfl)
  | (rw [keep_bool]; congr 1; symm
     rw [sameOps,Bool.and_eq_false_iff]; right; rw [List.all_eq_false]
     exact ⟨_,List.mem_of_getElem? hz,by simpa using hb13⟩)
  | (rw [keep_bool]; congr 1; symm
     have ht : t = a.length := by have := of_decide_eq_false hb10; omega
     rw [List.take_of_length_le (by rw [List.length_zipWith]; omega)] at hh
     rw [sameOps,hlen,hh]; simp)
 ·refine WC_skip ?_
  refine hN2 _ ?_; try clear hN2 hD2 N2
  refine WC_seqN (fun N6 hN6 hD6 => ?_)
  refine WC_seqR (fun N7 hN7 hD7 => ?_)
  simp only [sS,↓sT,Nat.reduceLT,Nat.reduceEqDiff,↓sO,↓WOps_g,sG,opV,loudV,cellsOf,strOp,evL,Nat.reduceAdd,Int.reduceBEq,Int.reduceBNe,hx.len,hy.len,hx1,hi,hj,hw,op_load,ti3,ti49]
  refine hN7 _ ?_; try clear hN7 hD7 N7
  refine WC_block ?_
  have hlen : a.length = b.length := by
    have h0 : ((a.length : Nat) : Int) = b.length := by simpa using hb4
    omega
  refine WC_loopG (σ := Nat) (fun t s => ∃ ps,s = ⟨mkS 27 ps, [], [],n⟩ ∧ Has ps [(0,x),(1,y),(5, .int .i64 t)] ∧ t ≤ a.length ∧ ((List.zipWith sameO a b).take t).all id = true) (fun t => a.length - t) 0 ?_ (fun t s hI => ?_)
  · exact ⟨_,rfl,⟨rfl,rfl,rfl,trivial⟩,Nat.zero_le _,rfl⟩
  obtain ⟨ps,rfl,hps,htl,hh⟩ := hI
  refine WC_has hps ?_; clear hps ps
  refine WC_seqN (fun N8 hN8 hD8 => ?_)
  refine WC_seqR (fun N9 hN9 hD9 => ?_)
  simp only [sS,↓sT,Nat.reduceLT,Nat.reduceEqDiff,↓sO,↓WOps_g,sG,opV,loudV,cellsOf,strOp,evL,Nat.reduceAdd,Int.reduceBEq,Int.reduceBNe,ti52,hx.len,hy.len,hx1,hi,hj,hw,op_load,ti3,ti49]
  refine hN9 _ ?_; try clear hN9 hD9 N9
  refine WC_condE ?_
  simp only [sS,↓sT,Nat.reduceLT,Nat.reduceEqDiff,↓stepC_bool]
  refine ⟨fun hb10 => ?_,fun hb10 => ?_⟩
  ·have ht : t < a.length := by have := of_decide_eq_true hb10; omega
   obtain ⟨p,hp⟩ : ∃ o,a[t]? = some o := ⟨_,List.getElem?_eq_getElem ht⟩
   obtain ⟨q,hq⟩ : ∃ o,b[t]? = some o := ⟨_,List.getElem?_eq_getElem (hlen ▸ ht)⟩
   have hz : (List.zipWith sameO a b)[t]? = some (sameO p q) := by rw [List.getElem?_zipWith,hp,hq]
   have hi := hx.ia hp
   have hj := hy.ia hq
   have hw : IntKind.i64.wrap ((t : Int) + 1) = (t : Int) + 1 := wrapI (by unfold maxLen at hl; omega) (by unfold maxLen at hl; omega)
   refine WC_skip ?_
   refine hN8 _ ?_; try clear hN8 hD8 N8
   refine WC_seqN (fun N11 hN11 hD11 => ?_)
   refine WC_block ?_
   refine WC_seqD mixed [] [0,0,0,0,0,0,0,0,0,0] (by decide +kernel) (fun N12 hN12 hD12 => ?_)
   simp only [sS,↓sT,Nat.reduceLT,Nat.reduceEqDiff,↓sD,↓D_g,memOk,lets0,lets1,List.not_mem_nil,not_false_eq_true,true_and,and_true,sG,opV,loudV,cellsOf,strOp,evL,Nat.reduceAdd,Int.reduceBEq,Int.reduceBNe,ti52,ti49,hx.len,hy.len,hx1,hi,hj,hw,op_load,ti3]
   refine D_callP (c_punnet_punnetref20_Same p q (hd p (List.mem_of_getElem? hp))) (by simp only [ev_func]) (by simp only [evL,sS,↓sT,Nat.reduceLT,Nat.reduceEqDiff]; rfl) (by first | rfl | (simp only [List.map,op_bare]; done) | (simp only [List.map,op_bare]; exact rfl)) (by first | rfl | simp [op_noP]) (by first | rfl | simp [op_noP]) rfl ?_
   simp only [sS,↓sT,Nat.reduceLT,Nat.reduceEqDiff,↓sD,↓D_g,memOk,lets0,lets1,List.not_mem_nil,not_false_eq_true,true_and,and_true,sG,opV,loudV,cellsOf,strOp,evL,Nat.reduceAdd,Int.reduceBEq,Int.reduceBNe,ti52,ti49,hx.len,hy.len,hx1,hi,hj,hw,op_load,ti3]
   refine hN12 _ ?_; try clear hN12 hD12 N12
   refine WC_condE ?_
   simp only [sS,↓sT,Nat.reduceLT,Nat.reduceEqDiff,↓stepC_bool]
   refine ⟨fun hb13 => ?_,fun hb13 => ?_⟩
   ·refine WC_seqR (fun N14 hN14 hD14 => ?_)
    simp only [sS,↓sT,Nat.reduceLT,Nat.reduceEqDiff,↓sO,↓WOps_g,sG,opV,loudV,cellsOf,strOp,evL,Nat.reduceAdd,Int.reduceBEq,Int.reduceBNe,hx.len,hy.len,hx1,hi,hj,hw,op_load,ti3,ti49]
    refine hN14 _ ?_; try clear hN14 hD14 N14
    refine WC_ret ?_; (try simp only [Exit.after,Exit.out]); refine Kend_ret (by simp only [resOf,resL,resV,mkS_get,slots_get,cellsOf,op_load,ti3,ti52,ti49,sS,↓sT,Nat.reduceLT,Nat.reduceEqDiff]; rfl) (by first | rfl | (simp only [op_load,ti3,ti52,ti49]; done) | (simp only [op_load,ti3,ti52,ti49,okV,ok1,okC,okP,List.all_cons,List.all_nil,Bool.and_true]; done)) ?_
    clear hN11 hD11 N11 hN6 hD6 N6
    first
    | (rw [keep_bool]; congr 1; symm
       have h0 : (a.length == b.length) = false := by simp at hb4 ⊢; omega
       rw [sameOps,h0]; rfl)
    | (rw [keep_bool]; congr 1; symm
       rw [sameOps,Bool.and_eq_false_iff]; right; rw [List.all_eq_false]
       exact ⟨_,List.mem_of_getElem? hz,by simpa using hb13⟩)
    | (rw [keep_bool]; congr 1; symm
       have ht : t = a.length := by have := of_decide_eq_false hb10; omega
       rw [List.take_of_length_le (by rw [List.length_zipWith]; omega)] at hh
       rw [sameOps,hlen,hh]; simp)
   ·refine WC_skip ?_
    refine hN11 _ ?_; try clear hN11 hD11 N11
    refine WC_regN (fun N15 hN15 => ?_)
    simp only [sS,↓sT,Nat.reduceLT,Nat.reduceEqDiff,↓sO,↓WOps_g,sG,opV,loudV,cellsOf,strOp,evL,Nat.reduceAdd,Int.reduceBEq,Int.reduceBNe,hx.len,hy.len,hx1,hi,hj,hw,op_load,ti3,ti49]
    refine hN15 _ ?_; try clear hN15 N15
    refine ⟨t + 1,⟨_,rfl,⟨rfl,rfl,rfl,trivial⟩,ht, ?_⟩,by omega⟩
    rw [List.take_add_one,hz,Option.toList_some,List.all_append,hh,Bool.true_and,List.all_cons,List.all_nil,Bool.and_true]
    simpa using hb13
  ·refine WC_exit ?_
   refine hN6 _ ?_; try clear hN6 hD6 N6
   refine WC_seqR (fun N16 hN16 hD16 => ?_)
   simp only [sS,↓sT,Nat.reduceLT,Nat.reduceEqDiff,↓sO,↓WOps_g,sG,opV,loudV,cellsOf,strOp,evL,Nat.reduceAdd,Int.reduceBEq,Int.reduceBNe,hx.len,hy.len,hx1,hi,hj,hw,op_load,ti3,ti49]
   refine hN16 _ ?_; try clear hN16 hD16 N16
   refine WC_ret ?_; (try simp only [Exit.after,Exit.out]); refine Kend_ret (by simp only [resOf,resL,resV,mkS_get,slots_get,cellsOf,op_load,ti3,ti52,ti49,sS,↓sT,Nat.reduceLT,Nat.reduceEqDiff]; rfl) (by first | rfl | (simp only [op_load,ti3,ti52,ti49]; done) | (simp only [op_load,ti3,ti52,ti49,okV,ok1,okC,okP,List.all_cons,List.all_nil,Bool.and_true]; done)) ?_
   clear hN8 hD8 N8
   first
   | (rw [keep_bool]; congr 1; symm
      have h0 : (a.length == b.length) = false := by simp at hb4 ⊢; omega
      rw [sameOps,h0]; rfl)
   | (rw [keep_bool]; congr 1; symm
      rw [sameOps,Bool.and_eq_false_iff]; right; rw [List.all_eq_false]
      exact ⟨_,List.mem_of_getElem? hz,by simpa using hb13⟩)
   | (rw [keep_bool]; congr 1; symm
      have ht : t = a.length := by have := of_decide_eq_false hb10; omega
      rw [List.take_of_length_le (by rw [List.length_zipWith]; omega)] at hh
      rw [sameOps,hlen,hh]; simp)
end Go.PV
/- Pools: what Put does to the lists; ops of unlike replicas may be put in any order. -/
namespace Go.PV
open Go.Proofs
set_option linter.unusedVariables false
set_option linter.unusedSimpArgs false

theorem take_at {α : Type} {l : List α} {t : Nat} {o : α} (h : l[t]? = some o) : l.take (t + 1) = l.take t ++ [o] := by rw [List.take_add_one, h]; rfl
def putL (Ls : List (List OpS)) (o : OpS) : List (List OpS) := (putS Ls o).2
def tot (Ls : List (List OpS)) : Nat := (Ls.map List.length).sum
theorem tot_have (Ls : List (List OpS)) : (haveL Ls).sum = (tot Ls : Int) := by
  induction Ls with
  | nil => rfl
  | cons l Ls ih =>
    simp only [haveL,tot,List.map_cons,List.sum_cons] at ih ⊢
    rw [ih]; omega
theorem tot_not {Ls : List (List OpS)} (h : tot Ls < 400) : (sumS (haveL Ls)).1 ≠ 400 := by
  unfold sumS
  split
  · decide
  · rw [tot_have]; show (tot Ls : Int) ≠ 400; omega
theorem tot_set (x : OpS) : ∀ (Ls : List (List OpS)) (k : Nat), tot (Ls.set k (Ls.getD k [] ++ [x])) ≤ tot Ls + 1
  | [],k => by simp [tot]
  | l :: Ls,0 => by simp [tot]; omega
  | l :: Ls,k + 1 => by
    have := tot_set x Ls k
    simp only [tot,List.getD_cons_succ,List.set_cons_succ,List.map_cons,List.sum_cons] at this ⊢
    omega
theorem len_tot {Ls : List (List OpS)} {l : List OpS} (h : l ∈ Ls) : l.length ≤ tot Ls := by
  induction Ls with
  | nil => cases h
  | cons a Ls ih =>
    simp only [tot,List.map_cons,List.sum_cons]
    rcases List.mem_cons.1 h with rfl | h
    · omega
    · have := ih h; unfold tot at this; omega
/-- what Put makes of the list of the op's replica -/
def growO (l : List OpS) (o : OpS) : List OpS := if o.idN = (l.length : Int) + 1 then l ++ [o.own] else l
theorem set_getD (Ls : List (List OpS)) (k : Nat) : Ls.set k (Ls.getD k []) = Ls := by
  apply List.ext_getElem?
  intro i
  rw [List.getElem?_set]
  split
  · rename_i h
    subst h
    split
    · rename_i h2; simp [List.getD,List.getElem?_eq_getElem h2]
    · rename_i h2; rw [List.getElem?_eq_none (by omega)]
  · rfl
theorem have_getD (Ls : List (List OpS)) (k : Nat) : (haveL Ls).getD k 0 = ((Ls.getD k []).length : Int) := by
  simp only [haveL,List.getD,List.getElem?_map]
  cases Ls[k]? <;> rfl
theorem putL_eq {Ls : List (List OpS)} {o : OpS} (h : tot Ls < 400) :
    putL Ls o = if rightS o = true then Ls.set (o.idR - 1).toNat (growO (Ls.getD (o.idR - 1).toNat []) o) else Ls := by
  unfold putL
  cases hR : rightS o with
  | false => simp [putS,hR]
  | true =>
    rw [putS_eq _ _ hR,if_pos rfl]
    by_cases hf : (findS Ls o.idR o.idN).2 = 0
    · rw [if_pos hf]
      have hh : hasB (haveL Ls) o.idR o.idN = true := by
        unfold findS at hf
        split at hf
        · assumption
        · exact absurd hf (by decide)
      simp only [hasB,Bool.and_eq_true,decide_eq_true_eq] at hh
      rw [have_getD] at hh
      show Ls = _
      rw [growO,if_neg (by omega),set_getD]
    · rw [if_neg hf]
      by_cases hn : o.idN = ((Ls.getD (o.idR - 1).toNat []).length : Int) + 1
      · rw [if_neg (by simpa using hn),if_neg (tot_not h),growO,if_pos hn]
      · rw [if_pos hn,growO,if_neg hn,set_getD]
theorem putL_tot (Ls : List (List OpS)) (o : OpS) : tot (putL Ls o) ≤ tot Ls + 1 := by
  unfold putL putS
  split
  · exact Nat.le_succ _
  · split
    · exact Nat.le_succ _
    · split
      · exact Nat.le_succ _
      · split
        · exact Nat.le_succ _
        · exact tot_set _ _ _
/-- the lists, their ops' drops -/
def OkLs (Ls : List (List OpS)) : Prop := ∀ l ∈ Ls, ∀ o ∈ l, o.drops.l.length ≤ maxApp
theorem OkLs.put {Ls : List (List OpS)} {o : OpS} (h : OkLs Ls) (ho : o.drops.l.length ≤ maxApp) : OkLs (putL Ls o) := by
  have key : OkLs (Ls.set (o.idR - 1).toNat (Ls.getD (o.idR - 1).toNat [] ++ [o.own])) := by
    intro l hl x hx
    rcases List.mem_or_eq_of_mem_set hl with hl | rfl
    · exact h l hl x hx
    · rcases List.mem_append.1 hx with hx | hx
      · simp only [List.getD] at hx
        cases hk : Ls[(o.idR - 1).toNat]? with
        | none => rw [hk] at hx; cases hx
        | some l' => rw [hk] at hx; exact h l' (List.mem_of_getElem? hk) x hx
      · obtain rfl := List.mem_singleton.1 hx
        show (cloneD o.drops).l.length ≤ maxApp
        rw [cloneD_l]; exact ho
  unfold putL putS
  split
  · exact h
  · split
    · exact h
    · split
      · exact h
      · split
        · exact h
        · exact key
def emptyL : List (List OpS) := [[], [], [], [], [], []]
theorem okEmpty : OkLs emptyL := fun l hl o ho => by
  simp only [emptyL,List.mem_cons,List.not_mem_nil,or_false] at hl
  rcases hl with rfl | rfl | rfl | rfl | rfl | rfl <;> cases ho
end Go.PV
/- Pools: calls of Put, Ops, Have for callers. -/
namespace Go.PV
open Go.Proofs
set_option linter.unusedVariables false
set_option linter.unusedSimpArgs false
set_option maxRecDepth 10000
set_option maxHeartbeats 1000000

/-- a pool that may be put to -/
structure Pool (Ls : List (List OpS)) (cs : List V) (ow : List (Nat × Nat)) (n : Nat) : Prop where
  p : PCt Ls cs
  a : Apart cs
  o : ∀ q ∈ cs.flatMap V.tokC,q ∈ ow
  d : OkLs Ls
  t : tot Ls ≤ n
theorem Pool.new (ow : List (Nat × Nat)) : Pool emptyL newC ow 0 :=
  ⟨by have := new_PCt (f := 0) (by decide); rwa [lsts_zero (by decide)] at this,new_apart,fun q hq => (by rw [new_toks] at hq; cases hq),okEmpty,Nat.le_refl _⟩
theorem Pool.facts {Ls : List (List OpS)} {cs : List V} {ow : List (Nat × Nat)} {n : Nat} (h : Pool Ls cs ow n) : ∀ c ∈ cs, c.noP0 = true ∧ c.isCell = true := fun c hc => by
  obtain ⟨l,_,hl⟩ := h.p.mem hc; exact ⟨hl.facts.1,hl.facts.2.1⟩
theorem Pool.lens {Ls : List (List OpS)} {cs : List V} {ow : List (Nat × Nat)} {n : Nat} (h : Pool Ls cs ow n) (hn : n ≤ 400) : ∀ l ∈ Ls, l.length ≤ 400 := fun l hl => by
  have := len_tot hl; have := h.t; omega
theorem PCt.lentAt {Ls : List (List OpS)} {cs : List V} (h : PCt Ls cs) {heap : List (List V)} {b : Nat} (hh : heap[b]? = some cs) : lentL heap [.ptr b 0] [.rptr (cs.map V.bareC)] :=
  ⟨.inr ⟨b,0,cs,rfl,hh,rfl,fun c hc => by obtain ⟨l,_,hl⟩ := h.mem hc; exact hl.facts.2.2⟩,trivial⟩
section
variable {ops : Array Oper} {os : List Oper} {K : St → Prop} {s : St} {dst : Option Tmp} {ty : TypeId} {pos : String} {after : Array Edge}
theorem WOps_put {f : Operand} {args : Array Operand} {ts : Array TypeId} {b n : Nat} {o : OpS} {Ls : List (List OpS)} {cs : List V} (hP : Pool Ls cs s.own n) (hn : n < 400) (ho : o.dropsL.length ≤ 200)
    (hf : ev s f = some (.func (.func 30) [])) (hx : evL s args.toList = some [.ptr b 0,opW o]) (hb : s.heap[b]? = some cs)
    (k : ∀ cs' ow' n',Pool (putL Ls o) cs' ow' (n + 1) → WOps Try.prog ops os K (St.put ⟨s.slots,s.heap.set b cs',ow',n'⟩ dst (.int .i64 (putS Ls o).1))) :
    WOps Try.prog ops (⟨dst, .call ⟨.value f,args,ts⟩,ty,pos,after,none⟩ :: os) K s := by
  refine WOps_callH (b := b) (o := 0) (ys := [opW o]) (cs := cs) (put_any1 hP.p hP.a o (by omega) hP.d (hP.lens (by omega))) hf hx hb (by intro y hy; obtain rfl := List.mem_singleton.1 hy; exact op_noP _) hP.facts hP.o ?_
  rintro _ _ n' ⟨rfl,cs',rfl,hP',hA'⟩ hnn
  refine ⟨cs',rfl,hP'.noP,rfl,k cs' _ n' ⟨hP',hA',fun q hq => ?_,hP.d.put (by show o.dropsL.length ≤ _; unfold maxApp; omega), ?_⟩⟩
  · exact List.mem_append_left _ (List.mem_append_right _ hq)
  · have := putL_tot Ls o; have := hP.t; omega
/-- Ops of a pool without tokens -/
theorem WOps_opsB {f : Operand} {args : Array Operand} {ts : Array TypeId} {b : Nat} {Ls : List (List OpS)} {cs : List V} (hP : PCt Ls cs) (h0 : cs.flatMap V.tokC = []) (hd : OkLs Ls) (hl : ∀ l ∈ Ls, l.length ≤ 400)
    (hf : ev s f = some (.func (.func 32) [])) (hx : evL s args.toList = some [.ptr b 0]) (hb : s.heap[b]? = some cs)
    (k : ∀ ow' n',(∀ q ∈ s.own,q ∈ ow') → WOps Try.prog ops os K (St.put ⟨s.slots,s.heap.set b cs,ow',n'⟩ dst (opsV (sinceL Ls zeroV 400)))) :
    WOps Try.prog ops (⟨dst, .call ⟨.value f,args,ts⟩,ty,pos,after,none⟩ :: os) K s := by
  refine WOps_callH (b := b) (o := 0) (ys := []) (cs := cs) (h__punnet_pool_Pool_Ops Ls cs hP hd hl) hf hx hb (fun y hy => absurd hy List.not_mem_nil) (fun c hc => by obtain ⟨l,_,hl⟩ := hP.mem hc; exact ⟨hl.facts.1,hl.facts.2.1⟩) (fun q hq => by rw [h0] at hq; cases hq) ?_
  rintro _ _ n' ⟨rfl,rfl⟩ hnn
  refine ⟨cs,rfl,hP.noP,(opsV_facts _).1,k _ n' fun q hq => ?_⟩
  rw [(opsV_facts _).2.1,List.nil_append,h0]
  exact List.mem_append_right _ (List.mem_filter.2 ⟨hq,by simp⟩)
end
theorem own_drops (o : OpS) : o.own.dropsL.length = o.dropsL.length := by
  show (cloneD o.drops).l.length = _
  rw [cloneD_l]; rfl
theorem part_mem {Ls : List (List OpS)} {v : List Int} {t : Nat} {o : OpS} (h : o ∈ partL Ls v t) : ∃ l ∈ Ls, ∃ p ∈ l, o = p.own := by
  obtain ⟨p,hp,rfl⟩ := List.mem_map.1 h
  obtain ⟨l,hl,hp⟩ := List.mem_flatten.1 (List.mem_filter.1 hp).1
  exact ⟨l,List.mem_of_mem_take hl,p,hp,rfl⟩
theorem since_mem {Ls : List (List OpS)} {v : List Int} {m : Int} {o : OpS} (h : o ∈ sinceL Ls v m) : ∃ l ∈ Ls, ∃ p ∈ l, o = p.own := part_mem (List.mem_of_mem_take h)
theorem since_drops {Ls : List (List OpS)} {v : List Int} {m : Int} (hd : OkLs Ls) : ∀ o ∈ sinceL Ls v m, o.dropsL.length ≤ 4611686018427387904 := fun o ho => by
  obtain ⟨l,hl,p,hp,rfl⟩ := since_mem ho
  rw [own_drops]
  have : p.dropsL.length ≤ maxApp := hd l hl p hp
  unfold maxApp at this; omega
theorem since_len (Ls : List (List OpS)) (v : List Int) : (sinceL Ls v 400).length ≤ maxLen := by
  have h : (sinceL Ls v 400).length ≤ 400 := by rw [sinceL,List.length_take]; exact Nat.min_le_left _ _
  unfold maxLen; omega
theorem heavy_ok {l : List OpS} {m : Int} (h : heavyOps l m = false) : (l.length : Int) ≤ m ∧ ∀ o ∈ l, o.dropsL.length ≤ 200 := by
  simp only [heavyOps,Bool.or_eq_false_iff,decide_eq_false_iff_not] at h
  refine ⟨by omega,fun o ho => ?_⟩
  have h2 : heavyB o = false := by
    cases hb : heavyB o with
    | false => rfl
    | true => rw [List.any_eq_true.2 ⟨o,ho,hb⟩] at h; exact absurd h.2 (by simp)
  simp only [heavyB,Bool.or_eq_false_iff,decide_eq_false_iff_not] at h2
  omega
end Go.PV
/- Arguments: lists of ops. -/
namespace Go.PV
open Go.Proofs
section
variable {H : Type} {enc : TypeId × Value → H} {W : World}
theorem okWide_slice {P : Program} {r : Reach} {base : Nat} {t e : TypeId} {v : Value} (hu : P.underlying t = some (.slice e)) (h : Value.okWide P W r base t v) : ∃ a n m, v = .slice a n m := by
  unfold Value.okWide at h
  simp only [hu] at h
  unfold Cell.okWide at h
  simp only [hu] at h
  unfold Cell.ok at h
  simp only [hu] at h
  cases v <;> first | exact ⟨_,_,_,rfl⟩ | exact h.elim | (simp at h)
/-- an argument that is a slice -/
theorem arg_slice {P : Program} {t e : TypeId} {v : Value} {d : DataW H} {ps : List MemPlace} {base : Nat} {α : Type} {emb : α → List V} {ok : α → Prop} (hs : ShC enc P W t emb ok) (hu : P.underlying t = some (.slice e))
    (hv : Value.okWide P W .any base t v) (hd : DataW.Trod enc P W 0 (fun _ => true) true t v d ps) : ∃ a,ok a ∧ LR W (G0 W) [v] (emb a) := by
  obtain ⟨a,n,m,rfl⟩ := okWide_slice hu hv
  obtain ⟨fuel,hf⟩ := hd
  exact hs _ _ _ hf
def opsOf : Option (List OpS) → List OpS × V
  | none => ([], .nils)
  | some l => (l, .slice 15 (l.map opW) false none)
theorem so_ops : ShC enc Try.prog W 52 (fun q : List OpS × V => [q.2]) (fun q => PS q.1 q.2 ∧ q.1.length ≤ maxLen) :=
  (ShC.slice so_op (sz := 15) Try.underlying52 (by kernel_rfl) (by decide) opW fun o _ => ⟨op_cells o,rfl,op_clean o⟩).map opsOf fun q hq => by
    cases q with
    | none => exact ⟨rfl, .inl ⟨rfl,rfl⟩,Nat.zero_le _⟩
    | some l => exact ⟨rfl, .inr ⟨false,rfl⟩,(hq l rfl).1⟩
theorem arg_ops {v : Value} {d : DataW H} {ps : List MemPlace} {base : Nat} (hv : Value.okWide Try.prog W .any base 52 v) (hd : DataW.Trod enc Try.prog W 0 (fun _ => true) true 52 v d ps) :
    ∃ q : List OpS × V,(PS q.1 q.2 ∧ q.1.length ≤ maxLen) ∧ Rep W (G0 W) v q.2 := by
  obtain ⟨q,hq,hr⟩ := arg_slice so_ops Try.underlying52 hv hd
  have h := hr.rep 0 _ rfl
  simp only [List.getD_cons_zero] at h
  exact ⟨q,hq,h⟩
end
end Go.PV
/- punnetref20: plain, Right. -/
namespace Go.PV
open Go.Proofs
set_option linter.unusedVariables false
set_option linter.unusedSimpArgs false
set_option maxRecDepth 10000
set_option maxHeartbeats 8000000

/-- nothing of a field's -/
def plainB (o : OpS) : Bool := (o.atS == 0 && (o.atG == [] && o.atN == [])) && ((o.delta == 0) && (!o.has && (o.text == [])))
theorem c_punnet_punnetref20_plain (o : OpS) : VC Try.prog 68 [opW o] [] (fun r _ => r = .bool (plainB o)) := by
 refine VC_enter (nt := 22) (rs := [.tmp 2]) (ow := []) (m := 0) Try.func68 rfl (by rfl) rfl rfl (by simp) (by simp [ownOf,op_toks]) rfl (fun n => ?_)
 simp only [zipT,Nat.zero_add]
 refine WC_seqR (fun N1 hN1 hD1 => ?_)
 simp only [sS,↓sT,Nat.reduceLT,Nat.reduceEqDiff,↓sO,↓WOps_g,sG,opV,loudV,cellsOf,strOp,evL,Nat.reduceAdd,Int.reduceBEq,Int.reduceBNe,op_cells,op_isC,opCells,List.all_cons,List.all_nil,icell_int,icell_str,icell_bool,dropsW_isC,Bool.and_self,load_slice,load_int,load_str,load_bool,tag_load2,ref_load,tag_eql,ref_eql,str_eql,bool_eql,ref_fold,ti3,ti9,ti47]
 refine hN1 _ ?_; try clear hN1 hD1 N1
 refine WC_seqR (fun N2 hN2 hD2 => ?_)
 simp only [sS,↓sT,Nat.reduceLT,Nat.reduceEqDiff,↓sO,↓WOps_g,sG,opV,loudV,cellsOf,strOp,evL,Nat.reduceAdd,Int.reduceBEq,Int.reduceBNe,fS49,ti47,buildV,evParts,V.isCell,List.all_cons,List.all_nil,Bool.and_self,if_true,placesOf,fillV,List.getElem?_cons_zero,List.getElem?_cons_succ,List.length_cons,List.length_nil,Nat.zero_add,ne_eq,not_true_eq_false,false_or,gt_iff_lt,if_false,wrL,Option.map_some,List.set_cons_zero,List.set_cons_succ,ti2,ti4,ti9,op_cells,op_isC,opCells,icell_int,icell_str,icell_bool,dropsW_isC,load_slice,load_int,load_str,load_bool,tag_load2,ref_load,tag_eql,ref_eql,str_eql,bool_eql,ref_fold,ti3]
 refine stepB_T (fun hg2_4 => ?_) (fun hg2_4 => ?_)
 ·simp only [sS,↓sT,Nat.reduceLT,Nat.reduceEqDiff,↓sO,↓WOps_g,sG,opV,loudV,cellsOf,strOp,evL,Nat.reduceAdd,Int.reduceBEq,Int.reduceBNe,fS49,ti47,buildV,evParts,V.isCell,List.all_cons,List.all_nil,Bool.and_self,if_true,placesOf,fillV,List.getElem?_cons_zero,List.getElem?_cons_succ,List.length_cons,List.length_nil,Nat.zero_add,ne_eq,not_true_eq_false,false_or,gt_iff_lt,if_false,wrL,Option.map_some,List.set_cons_zero,List.set_cons_succ,ti2,ti4,ti9,op_cells,op_isC,opCells,icell_int,icell_str,icell_bool,dropsW_isC,load_slice,load_int,load_str,load_bool,tag_load2,ref_load,tag_eql,ref_eql,str_eql,bool_eql,ref_fold,ti3,hg2_4]
  refine stepB_T (fun hg2_9 => ?_) (fun hg2_9 => ?_)
  ·have ehg2_9 := eq_of_beq hg2_9
   simp only [sS,↓sT,Nat.reduceLT,Nat.reduceEqDiff,↓sO,↓WOps_g,sG,opV,loudV,cellsOf,strOp,evL,Nat.reduceAdd,Int.reduceBEq,Int.reduceBNe,fS49,ti47,buildV,evParts,V.isCell,List.all_cons,List.all_nil,Bool.and_self,if_true,placesOf,fillV,List.getElem?_cons_zero,List.getElem?_cons_succ,List.length_cons,List.length_nil,Nat.zero_add,ne_eq,not_true_eq_false,false_or,gt_iff_lt,if_false,wrL,Option.map_some,List.set_cons_zero,List.set_cons_succ,ti2,ti4,ti9,op_cells,op_isC,opCells,icell_int,icell_str,icell_bool,dropsW_isC,load_slice,load_int,load_str,load_bool,tag_load2,ref_load,tag_eql,ref_eql,str_eql,bool_eql,ref_fold,ti3,hg2_4,ehg2_9]
   refine stepB_T (fun hg2_14 => ?_) (fun hg2_14 => ?_)
   ·simp only [sS,↓sT,Nat.reduceLT,Nat.reduceEqDiff,↓sO,↓WOps_g,sG,opV,loudV,cellsOf,strOp,evL,Nat.reduceAdd,Int.reduceBEq,Int.reduceBNe,fS49,ti47,buildV,evParts,V.isCell,List.all_cons,List.all_nil,Bool.and_self,if_true,placesOf,fillV,List.getElem?_cons_zero,List.getElem?_cons_succ,List.length_cons,List.length_nil,Nat.zero_add,ne_eq,not_true_eq_false,false_or,gt_iff_lt,if_false,wrL,Option.map_some,List.set_cons_zero,List.set_cons_succ,ti2,ti4,ti9,op_cells,op_isC,opCells,icell_int,icell_str,icell_bool,dropsW_isC,load_slice,load_int,load_str,load_bool,tag_load2,ref_load,tag_eql,ref_eql,str_eql,bool_eql,ref_fold,ti3,hg2_4,ehg2_9,hg2_14]
    refine hN2 _ ?_; try clear hN2 hD2 N2
    refine WC_ret ?_; (try simp only [Exit.after,Exit.out]); refine Kend_ret (by simp only [resOf,resL,resV,mkS_get,slots_get,cellsOf,op_load,ti3,ti52,ti49,sS,↓sT,Nat.reduceLT,Nat.reduceEqDiff]; rfl) (by first | rfl | (simp only [op_load,ti3,ti52,ti49]; done) | (simp only [op_load,ti3,ti52,ti49,okV,ok1,okC,okP,List.all_cons,List.all_nil,Bool.and_true]; done)) ?_
    first | (simp_all [plainB,keep_bool]; done)
   ·simp only [sS,↓sT,Nat.reduceLT,Nat.reduceEqDiff,↓sO,↓WOps_g,sG,opV,loudV,cellsOf,strOp,evL,Nat.reduceAdd,Int.reduceBEq,Int.reduceBNe,fS49,ti47,buildV,evParts,V.isCell,List.all_cons,List.all_nil,Bool.and_self,if_true,placesOf,fillV,List.getElem?_cons_zero,List.getElem?_cons_succ,List.length_cons,List.length_nil,Nat.zero_add,ne_eq,not_true_eq_false,false_or,gt_iff_lt,if_false,wrL,Option.map_some,List.set_cons_zero,List.set_cons_succ,ti2,ti4,ti9,op_cells,op_isC,opCells,icell_int,icell_str,icell_bool,dropsW_isC,load_slice,load_int,load_str,load_bool,tag_load2,ref_load,tag_eql,ref_eql,str_eql,bool_eql,ref_fold,ti3,hg2_4,ehg2_9,hg2_14]
    refine hN2 _ ?_; try clear hN2 hD2 N2
    refine WC_ret ?_; (try simp only [Exit.after,Exit.out]); refine Kend_ret (by simp only [resOf,resL,resV,mkS_get,slots_get,cellsOf,op_load,ti3,ti52,ti49,sS,↓sT,Nat.reduceLT,Nat.reduceEqDiff]; rfl) (by first | rfl | (simp only [op_load,ti3,ti52,ti49]; done) | (simp only [op_load,ti3,ti52,ti49,okV,ok1,okC,okP,List.all_cons,List.all_nil,Bool.and_true]; done)) ?_
    first | (simp_all [plainB,keep_bool]; done)
  ·simp only [sS,↓sT,Nat.reduceLT,Nat.reduceEqDiff,↓sO,↓WOps_g,sG,opV,loudV,cellsOf,strOp,evL,Nat.reduceAdd,Int.reduceBEq,Int.reduceBNe,fS49,ti47,buildV,evParts,V.isCell,List.all_cons,List.all_nil,Bool.and_self,if_true,placesOf,fillV,List.getElem?_cons_zero,List.getElem?_cons_succ,List.length_cons,List.length_nil,Nat.zero_add,ne_eq,not_true_eq_false,false_or,gt_iff_lt,if_false,wrL,Option.map_some,List.set_cons_zero,List.set_cons_succ,ti2,ti4,ti9,op_cells,op_isC,opCells,icell_int,icell_str,icell_bool,dropsW_isC,load_slice,load_int,load_str,load_bool,tag_load2,ref_load,tag_eql,ref_eql,str_eql,bool_eql,ref_fold,ti3,hg2_4,hg2_9]
   refine hN2 _ ?_; try clear hN2 hD2 N2
   refine WC_ret ?_; (try simp only [Exit.after,Exit.out]); refine Kend_ret (by simp only [resOf,resL,resV,mkS_get,slots_get,cellsOf,op_load,ti3,ti52,ti49,sS,↓sT,Nat.reduceLT,Nat.reduceEqDiff]; rfl) (by first | rfl | (simp only [op_load,ti3,ti52,ti49]; done) | (simp only [op_load,ti3,ti52,ti49,okV,ok1,okC,okP,List.all_cons,List.all_nil,Bool.and_true]; done)) ?_
   first | (simp_all [plainB,keep_bool]; done)
 ·simp only [sS,↓sT,Nat.reduceLT,Nat.reduceEqDiff,↓sO,↓WOps_g,sG,opV,loudV,cellsOf,strOp,evL,Nat.reduceAdd,Int.reduceBEq,Int.reduceBNe,fS49,ti47,buildV,evParts,V.isCell,List.all_cons,List.all_nil,Bool.and_self,if_true,placesOf,fillV,List.getElem?_cons_zero,List.getElem?_cons_succ,List.length_cons,List.length_nil,Nat.zero_add,ne_eq,not_true_eq_false,false_or,gt_iff_lt,if_false,wrL,Option.map_some,List.set_cons_zero,List.set_cons_succ,ti2,ti4,ti9,op_cells,op_isC,opCells,icell_int,icell_str,icell_bool,dropsW_isC,load_slice,load_int,load_str,load_bool,tag_load2,ref_load,tag_eql,ref_eql,str_eql,bool_eql,ref_fold,ti3,hg2_4]
  refine hN2 _ ?_; try clear hN2 hD2 N2
  refine WC_ret ?_; (try simp only [Exit.after,Exit.out]); refine Kend_ret (by simp only [resOf,resL,resV,mkS_get,slots_get,cellsOf,op_load,ti3,ti52,ti49,sS,↓sT,Nat.reduceLT,Nat.reduceEqDiff]; rfl) (by first | rfl | (simp only [op_load,ti3,ti52,ti49]; done) | (simp only [op_load,ti3,ti52,ti49,okV,ok1,okC,okP,List.all_cons,List.all_nil,Bool.and_true]; done)) ?_
  first | (simp_all [plainB,keep_bool]; done)
end Go.PV
