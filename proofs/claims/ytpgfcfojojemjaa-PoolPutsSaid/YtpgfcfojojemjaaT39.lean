/- PoolPuts: from the walk to the row. -/
import Derived.Test.YtpgfcfojojemjaaRows
import Derived.Test.YtpgfcfojojemjaaT38
import Derived.Test.YtpgfcfojojemjaaT34
import Derived.Test.YtpgfcfojojemjaaPWc
import Derived.SizedLaws
namespace Go.Proofs.Ytpgfcfojojemjaa.poolPuts
open Go.ChangeShapes Go.WideShapes Go.ChangeAt Go.RowKit Go.PV
theorem own : ownKnob Try.prog.godebug = none := by kernel_rfl
theorem laidOut : laidOutB Try.prog = true := by kernel_rfl
set_option maxRecDepth 100000 in
theorem lifted (os : Os) (started : os.Started) (H : Type) (enc : TypeId × Value → H) :
    ReturnsInHanded {} Try.checked os 9 .any (Rows.poolPutsSpec.pre6 enc Try.prog Try.f9 Rows.poolPutsRow.domain false) (Rows.poolPutsSpec.post enc Try.prog Try.f9 false true false false) := by
  refine returnsInHanded_of_change_sized (C := Try.checked) own started (by kernel_rfl) Try.func9
    (ChangeSpec.witness6 (enc := enc) (C := Try.checked) false ⟨#[], #[.slice none 0 0, .agg #[.int .i64 0, .int .i64 0], .agg #[.int .i64 0, .int .i64 0, .int .i64 0, .int .i64 0, .int .i64 0, .int .i64 0], .int .i64 0], []⟩ 8 (by kernel_rfl) (by kernel_rfl) (by kernel_rfl) (by kernel_rfl)) ?_
  intro W base args ds gs before hval0 hW hcnd hsz0 _
  have hval : ∀ (j : Nat) t v,Try.f9.params[j]? = some t → args[j]? = some v → Value.okWide Try.prog W .any base t v := hval0
  have hW' := hW
  obtain ⟨p,q,hA0,hV,rfl,hfz,hnd⟩ := hW
  have hA : DataW.TrodAll enc Try.prog W 0 (fun _ => true) true Try.f9.params.toList args.toList ds p := hA0
  rw [Try.params9] at hA hval
  obtain ⟨v0,vs0,d0,ds0,p0,q0,hargs,rfl,rfl,h0,r0⟩ := trodAll_cons hA
  obtain ⟨v1,vs1,d1,ds1,p1,q1,rfl,rfl,rfl,h1,r1⟩ := trodAll_cons r0
  obtain ⟨v2,vs2,d2,ds2,p2,q2,rfl,rfl,rfl,h2,r2⟩ := trodAll_cons r1
  obtain ⟨v3,vs3,d3,ds3,p3,q3,rfl,rfl,rfl,h3,r3⟩ := trodAll_cons r2
  obtain ⟨rfl,rfl,rfl⟩ := trodAll_nil r3
  obtain rfl : args = #[v0,v1,v2,v3] := by cases args; simp_all
  obtain ⟨rfl,rfl⟩ := trodVars_none hV
  have lt0 : ∀ x ∈ p0,x.block < W.heap.size := by obtain ⟨m,hm⟩ := h0; exact DataW.trod_lt m _ _ _ hm
  have lt1 : ∀ x ∈ p1,x.block < W.heap.size := by obtain ⟨m,hm⟩ := h1; exact DataW.trod_lt m _ _ _ hm
  have lt2 : ∀ x ∈ p2,x.block < W.heap.size := by obtain ⟨m,hm⟩ := h2; exact DataW.trod_lt m _ _ _ hm
  have lt3 : ∀ x ∈ p3,x.block < W.heap.size := by obtain ⟨m,hm⟩ := h3; exact DataW.trod_lt m _ _ _ hm
  have k0 := h0
  obtain ⟨a0,w0,e0⟩ := arg_ops (hval 0 _ v0 rfl rfl) h0
  have k1 := h1
  obtain ⟨a1,w1,e1⟩ := arg_agg so_tag (.inl ⟨_,Try.underlying25⟩) (hval 1 _ v1 rfl rfl) h1
  have k2 := h2
  obtain ⟨a2,w2,e2⟩ := arg_agg so_vec (.inr ⟨_,_,Try.underlying23⟩) (hval 2 _ v2 rfl rfl) h2
  have k3 := h3
  obtain ⟨a3,rfl,rfl,rfl,w3⟩ := open_int Try.underlying3 (hval 3 _ v3 rfl rfl) h3
  clear hA0 hval0 hsz0
  refine (calls_end (c_punnet_punnetlaw26_PoolPuts a0.1 a0.2 w0.1 w0.2 a1.1 a1.2 a2 w2 a3) ⟨rfl,fun k y hk => ?_⟩ (by simp only [ownOf,List.flatMap_cons,List.flatMap_nil,w0.1.toks,vec_toks,tag_toks,List.append_nil]; rfl)).mono fun e W' ⟨he,bel⟩ => ?_
  · match k,hk with
    | 0,hk => obtain rfl := Option.some.inj hk; exact e0
    | 1,hk => obtain rfl := Option.some.inj hk; exact e1
    | 2,hk => obtain rfl := Option.some.inj hk; exact e2
    | 3,hk => obtain rfl := Option.some.inj hk; exact .int _ _
    | k + 4,hk => simp at hk
  subst he
  exact ⟨_,rfl,_,_,_, [],_, [],hW',trodAll_mk1 (shut_bool Try.underlying4 _),
    (trodAll_cons_mk (Below.trod laidOut (by kernel_rfl) (of_decide_eq_true (by kernel_rfl)) k0 bel lt0) (trodAll_cons_mk (Below.trod laidOut (by kernel_rfl) (of_decide_eq_true (by kernel_rfl)) k1 bel lt1) (trodAll_cons_mk (Below.trod laidOut (by kernel_rfl) (of_decide_eq_true (by kernel_rfl)) k2 bel lt2) (trodAll_cons_mk (Below.trod laidOut (by kernel_rfl) (of_decide_eq_true (by kernel_rfl)) k3 bel lt3) trodAll_mk0)))),rfl,bel.frame _,fun h => by cases h⟩
end Go.Proofs.Ytpgfcfojojemjaa.poolPuts
