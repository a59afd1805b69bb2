/- DotTags: the row. -/
import Derived.Test.YtpgfcfojojemjaaRows
import Derived.Test.YtpgfcfojojemjaaDot12
import Derived.Test.YtpgfcfojojemjaaPWc
import Derived.SizedLaws
namespace Go.PV
open Go.Proofs
section
variable {H : Type} {enc : TypeId × Value → H} {W : World}
theorem sh_int : ShC enc Try.prog W 3 (fun n : Int => [V.int .i64 n]) (fun n => (Lit.int .i64 n).wf = true) := ShC.int Try.underlying3
theorem sh_vec : ShC enc Try.prog W 23 (fun v : List Int => v.map (V.int .i64)) (fun v => v.length = 6) :=
  (ShC.arr sh_int Try.underlying23 (by kernel_rfl)).map (fun v => v) fun v hv => ⟨by
    clear hv
    induction v with
    | nil => rfl
    | cons x v ih => simp only [List.flatMap_cons, List.map_cons, ih]; rfl, hv.1⟩
theorem sh_tag : ShC enc Try.prog W 25 (fun q : Int × Int => [V.int .i64 q.1, V.int .i64 q.2]) (fun _ => True) :=
  (ShC.struct (sz := 2) Try.underlying25 (by kernel_rfl) (ShF.cons (o := 0) (c := 1) (sz := 1) sh_int rfl (by kernel_rfl) (ShF.cons (o := 1) (c := 1) (sz := 0) sh_int rfl (by kernel_rfl) (ShF.nil 2)))).map
    (fun q => (q.1, q.2.1)) fun q _ => ⟨rfl, trivial⟩
end
end Go.PV
namespace Go.Proofs.Ytpgfcfojojemjaa.dotTags
open Go.ChangeShapes Go.WideShapes Go.ChangeAt Go.RowKit Go.PV
theorem own : ownKnob Try.prog.godebug = none := by kernel_rfl
theorem laidOut : laidOutB Try.prog = true := by kernel_rfl
set_option maxRecDepth 100000 in
theorem lifted (os : Os) (started : os.Started) (H : Type) (enc : TypeId × Value → H) :
    ReturnsInHanded {} Try.checked os 3 .any (Rows.dotTagsSpec.pre6 enc Try.prog Try.f3 Rows.dotTagsRow.domain false) (Rows.dotTagsSpec.post enc Try.prog Try.f3 false true false false) := by
  refine returnsInHanded_of_change_sized (C := Try.checked) own started (by kernel_rfl) Try.func3
    (ChangeSpec.witness6 (enc := enc) (C := Try.checked) false ⟨#[], #[.agg #[.int .i64 0, .int .i64 0, .int .i64 0, .int .i64 0, .int .i64 0, .int .i64 0], .agg #[.int .i64 0, .int .i64 0], .int .i64 0], []⟩ 8 (by kernel_rfl) (by kernel_rfl) (by kernel_rfl) (by kernel_rfl)) ?_
  intro W base args ds gs before hval0 hW hcnd hsz0 _
  have hval : ∀ (j : Nat) t v, Try.f3.params[j]? = some t → args[j]? = some v → Value.okWide Try.prog W .any base t v := hval0
  have hW' := hW
  obtain ⟨p, q, hA0, hV, rfl, hfz, hnd⟩ := hW
  have hA : DataW.TrodAll enc Try.prog W 0 (fun _ => true) true Try.f3.params.toList args.toList ds p := hA0
  rw [Try.params3] at hA hval
  obtain ⟨v0, vs0, d0, ds0, p0, q0, hargs, rfl, rfl, h0, r0⟩ := trodAll_cons hA
  obtain ⟨v1, vs1, d1, ds1, p1, q1, rfl, rfl, rfl, h1, r1⟩ := trodAll_cons r0
  obtain ⟨v2, vs2, d2, ds2, p2, q2, rfl, rfl, rfl, h2, r2⟩ := trodAll_cons r1
  obtain ⟨rfl, rfl, rfl⟩ := trodAll_nil r2
  obtain rfl : args = #[v0, v1, v2] := by cases args; simp_all
  obtain ⟨rfl, rfl⟩ := trodVars_none hV
  have lt0 : ∀ x ∈ p0, x.block < W.heap.size := by obtain ⟨m, hm⟩ := h0; exact DataW.trod_lt m _ _ _ hm
  have lt1 : ∀ x ∈ p1, x.block < W.heap.size := by obtain ⟨m, hm⟩ := h1; exact DataW.trod_lt m _ _ _ hm
  have lt2 : ∀ x ∈ p2, x.block < W.heap.size := by obtain ⟨m, hm⟩ := h2; exact DataW.trod_lt m _ _ _ hm
  obtain ⟨v, hv, e0⟩ := arg_agg sh_vec (.inr ⟨_, _, Try.underlying23⟩) (hval 0 _ v0 rfl rfl) h0
  obtain ⟨t, ht, e1⟩ := arg_agg sh_tag (.inl ⟨_, Try.underlying25⟩) (hval 1 _ v1 rfl rfl) h1
  have k2 := h2
  obtain ⟨a2, rfl, rfl, rfl, w2⟩ := open_int Try.underlying3 (hval 2 _ v2 rfl rfl) h2
  clear hA0 hval0 hsz0
  refine (calls_end (c_punnet_punnetlaw25_DotTags v hv t.1 t.2 a2) ⟨rfl, fun k y hk => ?_⟩ (by simp only [ownOf, List.flatMap_cons, vec_toks, tag_toks]; rfl)).mono fun e W' ⟨he, bel⟩ => ?_
  · match k, hk with
    | 0, hk => obtain rfl := Option.some.inj hk; exact e0
    | 1, hk => obtain rfl := Option.some.inj hk; exact e1
    | 2, hk => obtain rfl := Option.some.inj hk; exact .int _ _
    | k + 3, hk => simp at hk
  subst he
  exact ⟨_, rfl, _, _, _, [], _, [], hW', trodAll_mk1 (shut_bool Try.underlying4 _),
    (trodAll_cons_mk (Below.trod laidOut (by kernel_rfl) (of_decide_eq_true (by kernel_rfl)) h0 bel lt0) (trodAll_cons_mk (Below.trod laidOut (by kernel_rfl) (of_decide_eq_true (by kernel_rfl)) h1 bel lt1) (trodAll_cons_mk (Below.trod laidOut (by kernel_rfl) (of_decide_eq_true (by kernel_rfl)) k2 bel lt2) trodAll_mk0))), rfl, bel.frame _, fun h => by cases h⟩
end Go.Proofs.Ytpgfcfojojemjaa.dotTags
