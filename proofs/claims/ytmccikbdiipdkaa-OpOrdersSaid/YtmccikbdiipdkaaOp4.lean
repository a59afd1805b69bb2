/- OpOrders: from the walk to the row. -/
import Derived.Test.YtmccikbdiipdkaaRows
import Derived.Test.YtmccikbdiipdkaaOp3
import Derived.Test.YtmccikbdiipdkaaPWc
import Derived.SizedLaws
namespace Go.PV
open Go.Proofs
section
variable {H : Type} {enc : TypeId × Value → H} {W : World}
theorem so_int : ShC enc Try.prog W 3 (fun n : Int => [V.int .i64 n]) (fun n => (Lit.int .i64 n).wf = true) := ShC.int Try.underlying3
theorem so_int64 : ShC enc Try.prog W 2 (fun n : Int => [V.int .i64 n]) (fun n => (Lit.int .i64 n).wf = true) := ShC.int Try.underlying2
theorem so_bool : ShC enc Try.prog W 4 (fun b : Bool => [V.bool b]) (fun _ => True) := ShC.bool Try.underlying4
theorem so_str : ShC enc Try.prog W 9 (fun s : List UInt8 => [V.str s]) (fun s => s.length ≤ maxLen) := ShC.str Try.underlying9
theorem so_tag : ShC enc Try.prog W 23 (fun q : Int × Int => [V.int .i64 q.1, V.int .i64 q.2]) (fun _ => True) :=
  (ShC.struct (sz := 2) Try.underlying23 (by kernel_rfl) (ShF.cons (o := 0) (c := 1) (sz := 1) so_int rfl (by kernel_rfl) (ShF.cons (o := 1) (c := 1) (sz := 0) so_int rfl (by kernel_rfl) (ShF.nil 2)))).map
    (fun q => (q.1, q.2.1)) fun q _ => ⟨rfl, trivial⟩
theorem fl_int : Flat enc Try.prog W 3 := Flat.int Try.underlying3
theorem fl_tag : Flat enc Try.prog W 23 :=
  Flat.struct (sz := 2) Try.underlying23 (by kernel_rfl) (FlF.cons (o := 0) (c := 1) (sz := 1) fl_int rfl (by kernel_rfl) (FlF.cons (o := 1) (c := 1) (sz := 0) fl_int rfl (by kernel_rfl) (FlF.nil 2)))
theorem so_tags : ShC enc Try.prog W 26 (fun q : Option (List (Int × Int)) => [dropsW q]) (fun q => (q.getD []).length ≤ maxLen) :=
  (ShC.slice so_tag fl_tag (sz := 2) Try.underlying26 (by kernel_rfl) (by decide) tagE fun q _ => ⟨rfl, rfl, rfl⟩).map (fun q => q) fun q hq => by
    cases q with
    | none => exact ⟨rfl, by simp⟩
    | some l => exact ⟨rfl, (hq l rfl).1⟩
theorem so_ref : ShC enc Try.prog W 25 (fun q : Int × List UInt8 × List UInt8 × Unit => [V.int .i64 q.1] ++ ([V.str q.2.1] ++ ([V.str q.2.2.1] ++ []))) (fun q => (Lit.int .i64 q.1).wf = true ∧ q.2.1.length ≤ maxLen ∧ q.2.2.1.length ≤ maxLen ∧ True) :=
  (ShC.struct (sz := 3) Try.underlying25 (by kernel_rfl) (ShF.cons (o := 0) (c := 1) (sz := 2) so_int rfl (by kernel_rfl) (ShF.cons (o := 1) (c := 1) (sz := 1) so_str rfl (by kernel_rfl) (ShF.cons (o := 2) (c := 1) (sz := 0) so_str rfl (by kernel_rfl) (ShF.nil 3))))).map (fun q => q) fun q hq => ⟨rfl, hq⟩
theorem so_op : ShC enc Try.prog W 28 opCells OpOk :=
  (ShC.struct (sz := 15) Try.underlying28 (by kernel_rfl)
    (ShF.cons (o := 0) (c := 2) (sz := 13) so_tag rfl (by kernel_rfl)
    (ShF.cons (o := 2) (c := 2) (sz := 11) so_tag rfl (by kernel_rfl)
    (ShF.cons (o := 4) (c := 1) (sz := 10) so_int64 rfl (by kernel_rfl)
    (ShF.cons (o := 5) (c := 1) (sz := 9) so_str rfl (by kernel_rfl)
    (ShF.cons (o := 6) (c := 1) (sz := 8) so_int rfl (by kernel_rfl)
    (ShF.cons (o := 7) (c := 1) (sz := 7) so_str rfl (by kernel_rfl)
    (ShF.cons (o := 8) (c := 3) (sz := 4) so_ref rfl (by kernel_rfl)
    (ShF.cons (o := 11) (c := 1) (sz := 3) so_int64 rfl (by kernel_rfl)
    (ShF.cons (o := 12) (c := 1) (sz := 2) so_bool rfl (by kernel_rfl)
    (ShF.cons (o := 13) (c := 1) (sz := 1) so_str rfl (by kernel_rfl)
    (ShF.cons (o := 14) (c := 1) (sz := 0) so_tags rfl (by kernel_rfl) (ShF.nil 15))))))))))))).map
    (fun q => match q with | (i, s, t, c, k, m, r, d, h, x, p, _) => ⟨i.1, i.2, s.1, s.2, t, c, k, m, r.1, r.2.1, r.2.2.1, d, h, x, p⟩) fun q hq => by
      obtain ⟨i, s, t, c, k, m, r, d, h, x, p, u⟩ := q
      obtain ⟨_, _, _, h4, _, h6, h7, _, _, h10, h11, _⟩ := hq
      have hM : maxLen ≤ 9223372036854775807 := by decide
      exact ⟨rfl, ⟨Nat.le_trans h4 hM, Nat.le_trans h6 hM, Nat.le_trans h7.2.1 hM, Nat.le_trans h7.2.2.1 hM, Nat.le_trans h10 hM, Nat.le_trans h11 hM⟩⟩
end
end Go.PV
namespace Go.Proofs.Ytmccikbdiipdkaa.opOrders
open Go.ChangeShapes Go.WideShapes Go.ChangeAt Go.RowKit Go.PV
theorem own : ownKnob Try.prog.godebug = none := by kernel_rfl
theorem laidOut : laidOutB Try.prog = true := by kernel_rfl
def opZ : Value := .agg #[.int .i64 0, .int .i64 0, .int .i64 0, .int .i64 0, .int .i64 0, .string ByteArray.empty, .int .i64 0, .string ByteArray.empty, .int .i64 0, .string ByteArray.empty, .string ByteArray.empty, .int .i64 0, .bool false, .string ByteArray.empty, .slice none 0 0]
set_option maxRecDepth 100000 in
theorem lifted (os : Os) (started : os.Started) (H : Type) (enc : TypeId × Value → H) :
    ReturnsInHanded {} Try.checked os 3 .any (Rows.opOrdersSpec.pre6 enc Try.prog Try.f3 Rows.opOrdersRow.domain false) (Rows.opOrdersSpec.post enc Try.prog Try.f3 false true false false) := by
  refine returnsInHanded_of_change_sized (C := Try.checked) own started (by kernel_rfl) Try.func3
    (ChangeSpec.witness6 (enc := enc) (C := Try.checked) false ⟨#[], #[opZ, opZ, opZ], []⟩ 8 (by kernel_rfl) (by kernel_rfl) (by kernel_rfl) (by kernel_rfl)) ?_
  intro W base args ds gs before hval0 hW hcnd hsz0 _
  have hval : ∀ (j : Nat) t v, Try.f3.params[j]? = some t → args[j]? = some v → Value.okWide Try.prog W .any base t v := hval0
  have hW' := hW
  obtain ⟨p, q, hA0, hV, rfl, hfz, hnd⟩ := hW
  have hA : DataW.TrodAll enc Try.prog W 0 (fun _ => true) true Try.f3.params.toList args.toList ds p := hA0
  rw [Try.params3] at hA hval
  obtain ⟨v0, vs0, d0, ds0, p0, q0, hargs, rfl, rfl, h0, r0⟩ := trodAll_cons hA
  obtain ⟨v1, vs1, d1, ds1, p1, q1, rfl, rfl, rfl, h1, r1⟩ := trodAll_cons r0
  obtain ⟨v2, vs2, d2, ds2, p2, q2, rfl, rfl, rfl, h2, r2⟩ := trodAll_cons r1
  obtain ⟨rfl, rfl, rfl⟩ := trodAll_nil r2
  obtain rfl : args = #[v0, v1, v2] := by cases args; simp_all
  obtain ⟨rfl, rfl⟩ := trodVars_none hV
  have lt0 : ∀ x ∈ p0, x.block < W.heap.size := by obtain ⟨m, hm⟩ := h0; exact DataW.trod_lt m _ _ _ hm
  have lt1 : ∀ x ∈ p1, x.block < W.heap.size := by obtain ⟨m, hm⟩ := h1; exact DataW.trod_lt m _ _ _ hm
  have lt2 : ∀ x ∈ p2, x.block < W.heap.size := by obtain ⟨m, hm⟩ := h2; exact DataW.trod_lt m _ _ _ hm
  obtain ⟨a, la, e0⟩ := arg_agg so_op (.inl ⟨_, Try.underlying28⟩) (hval 0 _ v0 rfl rfl) h0
  obtain ⟨b, lb, e1⟩ := arg_agg so_op (.inl ⟨_, Try.underlying28⟩) (hval 1 _ v1 rfl rfl) h1
  obtain ⟨c, lc, e2⟩ := arg_agg so_op (.inl ⟨_, Try.underlying28⟩) (hval 2 _ v2 rfl rfl) h2
  clear hA0 hval0 hsz0
  refine (calls_end (c_punnet_punnetlaw20_OpOrders a b c) ⟨rfl, fun k y hk => ?_⟩ (by simp [ownOf, op_toks])).mono fun e W' ⟨he, bel⟩ => ?_
  · match k, hk with
    | 0, hk => obtain rfl := Option.some.inj hk; exact e0
    | 1, hk => obtain rfl := Option.some.inj hk; exact e1
    | 2, hk => obtain rfl := Option.some.inj hk; exact e2
    | k + 3, hk => simp at hk
  subst he
  exact ⟨_, rfl, _, _, _, [], _, [], hW', trodAll_mk1 (shut_bool Try.underlying4 _),
    (trodAll_cons_mk (Below.trod laidOut (by kernel_rfl) (of_decide_eq_true (by kernel_rfl)) h0 bel lt0) (trodAll_cons_mk (Below.trod laidOut (by kernel_rfl) (of_decide_eq_true (by kernel_rfl)) h1 bel lt1) (trodAll_cons_mk (Below.trod laidOut (by kernel_rfl) (of_decide_eq_true (by kernel_rfl)) h2 bel lt2) trodAll_mk0))), rfl, bel.frame _, fun h => by cases h⟩
end Go.Proofs.Ytmccikbdiipdkaa.opOrders
