/- Operations that turn nothing: the model does what 'opV' says. -/
import Derived.Test.YtpgfcfojojemjaaPVf
namespace Go.PV
set_option linter.unusedVariables false

/-- the slots of a frame, represented -/
structure SR (w : World) (G : Gh) (tmps : Array Value) (slots : List V) : Prop where
  len : tmps.size = slots.length
  rep : ∀ t x,slots[t]? = some x → Rep w G (tmps.getD t undef) x

theorem SR.mono {w w' : World} {G G' : Gh} {tmps : Array Value} {slots : List V} (h : SR w G tmps slots) (m : Mono w G w' G') : SR w' G' tmps slots :=
  ⟨h.len,fun t x hx => (h.rep t x hx).mono m⟩

section
variable {P : Program} {w0 w : World} {G0 G : Gh} {s : St} {a : Act}

theorem ev_rep (hs : SR w G a.tmps s.slots) {x : Operand} {v : V} (h : ev s x = some v) : Rep w G (a.eval x) v := by
  cases x with
  | tmp t => exact hs.rep t v h
  | const c => exact absV_rep h w G
  | func f =>
    obtain rfl := Option.some.inj h
    exact .func (.func f) [] #[] rfl (fun k y hk => by simp at hk)
  | global g => simp [ev] at h

/-- lists of values, represented one by one -/
structure LR (w : World) (G : Gh) (vs : List Value) (xs : List V) : Prop where
  len : vs.length = xs.length
  rep : ∀ k y,xs[k]? = some y → Rep w G (vs.getD k undef) y

theorem evL_rep (hs : SR w G a.tmps s.slots) : ∀ {xs : List Operand} {vs : List V}, evL s xs = some vs → LR w G (xs.map a.eval) vs
  | [],vs,h => by
    obtain rfl := Option.some.inj h
    exact ⟨rfl,fun k y hk => by simp at hk⟩
  | x :: xs,vs,h => by
    simp only [evL] at h
    split at h
    · rename_i v vs' h1 h2
      obtain rfl := Option.some.inj h
      have ih := evL_rep hs h2
      refine ⟨by simp [← ih.len],fun k y hk => ?_⟩
      cases k with
      | zero => obtain rfl : v = y := by simpa using hk
                exact ev_rep hs h1
      | succ k => exact ih.rep k y (by simpa using hk)
    · simp at h

theorem cellsOf_mem {heap own next} (I : Inv w0 G0 heap own next w G) (hh : s.heap = heap) {v : Value} {x : V} (h : Rep w G v x) {cs : List V} (hc : cellsOf s x = some cs) :
    ∃ B o,v = .pointer (some ⟨B,o,none⟩) ∧ memAt w G B o cs := by
  cases h with
  | ptr b off hb =>
    simp only [cellsOf] at hc
    split at hc
    · rename_i cs' hcs
      obtain rfl := Option.some.inj hc
      refine ⟨_,_,rfl, ?_⟩
      rw [hh] at hcs
      obtain ⟨arr,e,ha,hsz,hr⟩ := I.heap.blk b cs' hcs
      intro k y hk
      rw [List.getElem?_drop] at hk
      have hlt := (List.getElem?_eq_some_iff.1 hk).1
      exact ⟨arr.getD (off + k) undef,by rw [cell_eq ha]; simp [show off + k < arr.size from by omega],(hr _ y hk).2⟩
    · simp at hc
  | rptr B o cs' vs hcl hS hR =>
    obtain rfl := Option.some.inj hc
    exact ⟨B,o,rfl,fun k y hk => ⟨vs k,(hS k y hk).2,hR k y hk⟩⟩
  | _ => simp [cellsOf] at hc

theorem run_partV {t : TypeId} {i : TI} (ht : ti P t = some i) {xs : Array Value} {cs : List V} (hl : xs.size = cs.length) (hr : ∀ k y, cs[k]? = some y → Rep w G (xs.getD k undef) y)
    {off : Nat} {x : V} (hx : partV i cs off = some x) : ∃ v,(part t xs off).run P w = .ok v w ∧ Rep w G v x := by
  obtain ⟨info,d,h1,h2,rfl⟩ := ti_spec ht
  unfold partV at hx
  simp only at hx
  split at hx
  · rename_i ha
    split at hx
    · rename_i hs
      obtain rfl := Option.some.inj hx
      refine ⟨_,run_part_agg h1 h2 ha xs off, .agg _ _ (by simp; omega) (fun k y hk => ?_)⟩
      rw [List.getElem?_take] at hk
      split at hk
      · rename_i hkk
        rw [List.getElem?_drop] at hk
        have := hr (off + k) y hk
        rw [Array.getD_eq_getD_getElem?] at this ⊢
        rw [extract_get xs off info.size k hkk]; exact this
      · simp at hk
    · simp at hx
  · rename_i ha
    have hlt := (List.getElem?_eq_some_iff.1 hx).1
    have := hr off x hx
    refine ⟨xs.getD off undef,run_part_cell h2 (by simpa using ha) ?_,this⟩
    simp [show off < xs.size from by omega]

theorem byteV_rep (b : UInt8) (w : World) (G : Gh) : Rep w G (.int .u8 (b.toNat : Int)) (byteV b) := .int _ _

theorem asIntOf_run (k : IntKind) (n : Int) : (asIntOf (.int k n)).run P w = .ok (k, n) w := rfl

/-! ## binary operators -/
theorem eqGuard_run {op : BinOp} {t : TypeId} {x y : Operand} {a b : Value} {u v : V} (hu : Rep w G a u) (hv : Rep w G b v) (hnu : u ≠ .dead) (hnv : v ≠ .dead)
    (h : ∀ cs ds,u = .agg cs → v = .agg ds → P.eqGuardType P.depth t = false) : (eqGuard op t x y a b).run P w = .ok () w := by
  unfold eqGuard
  cases op <;> first | rfl | skip
  all_goals
    cases hu <;> first | (exact absurd rfl hnu) | skip
  all_goals
    cases hv <;> first
      | (exact absurd rfl hnv)
      | rfl
      | (simp [h _ _ rfl rfl]; done)

theorem cellsAt_of {xs : Array Value} {cs : List V} (hs : xs.size = cs.length) (hr : ∀ k y, cs[k]? = some y → Rep w G (xs.getD k undef) y) : cellsAt w G xs 0 cs := fun k y hk => by
  refine ⟨xs.getD k undef, ?_,hr k y hk⟩
  have := (List.getElem?_eq_some_iff.1 hk).1
  rw [Nat.zero_add]; simp [show k < xs.size from by omega]

theorem flatK_size {d : Nat} {t : TypeId} {info : TypeInfo} {ks : List TD} (hi : P.info? t = some info) (h : flatK P d t = some ks) : info.size = ks.length := by
  cases d with
  | zero => simp [flatK] at h
  | succ d =>
    cases hue : P.underlying t with
    | none => simp [flatK,hue] at h
    | some ue =>
      cases ue <;> simp only [flatK,hue,hi] at h <;> first
        | (simp at h; done)
        | (split at h
           · rename_i h1; obtain rfl := Option.some.inj h; simp [h1]
           · simp at h)
        | skip
      · split at h
        · rename_i hh; split at h
          · rename_i h1; obtain rfl := Option.some.inj h
            rw [len_rep]; exact h1
          · simp at h
        · simp at h
      · split at h
        · simp at h
        · split at h
          · split at h
            · rename_i h1; obtain rfl := Option.some.inj h; exact h1.symm
            · simp at h
          · simp at h

theorem equal_run {t : TypeId} {a b : Value} {u v : V} (hu : Rep w G a u) (hv : Rep w G b v) {r : Bool} (h : eqlV P t u v = some r) :
    (Op.equal t a b).run P w = .ok r w ∧ u ≠ .dead ∧ v ≠ .dead ∧ (∀ cs ds,u = .agg cs → v = .agg ds → P.eqGuardType P.depth t = false) ∧
    (∀ k n,u ≠ .int k n) ∧ (∀ s,u ≠ .str s) := by
  unfold eqlV at h
  split at h
  · rename_i i hi
    obtain ⟨info,d,h1,h2,rfl⟩ := ti_spec hi
    obtain ⟨D,hD,hDD⟩ : ∃ D,Op.maxDepth = D + 1 ∧ 64 ≤ D + 1 := ⟨9999,rfl,by omega⟩
    unfold Op.equal
    rw [hD]
    clear hD
    simp only at h
    split at h
    all_goals first
      | (simp at h; done)
      | (rename_i hd; obtain rfl := Option.some.inj h
         cases hu; cases hv
         refine ⟨?_,by simp,by simp,by simp,by simp,by simp⟩
         cases d <;> simp [tdOf] at hd
         simp [Op.equalIn,run_und h2]; done)
      | (rename_i hd
         split at h
         · rename_i ks hk
           unfold eqK at hk
           split at hk
           · simp at hk
           · rename_i hg
             cases hu with
             | agg xs cs hsx hrx =>
             cases hv with
             | agg ys ds hsy hry =>
             refine ⟨?_,by simp,by simp,fun _ _ _ _ => by simpa using hg,by simp,by simp⟩
             have hlen := cellsEq_length h
             have cx := cellsAt_of hsx hrx
             have cy := cellsAt_of hsy hry
             have ha : (tdOf d).agg = true := by rw [hd]; rfl
             have hsz : info.size = ks.length := flatK_size h1 hk
             have := flat_run 64 (D + 1) t ks xs ys 0 0 _ _ r hDD hk cx cy h
             simp only [eqPart,Sem.run_bind,run_part_agg h1 h2 ha,Result.andThen_ok,Nat.zero_add] at this
             rw [Array.extract_eq_self_of_le (by omega),Array.extract_eq_self_of_le (by omega)] at this
             exact this
         · simp at h)
  · simp at h

theorem binV_run {op : BinOp} {t : TypeId} {X Y : Operand} {a b : Value} {u v : V} (hu : Rep w G a u) (hv : Rep w G b v) {x : V} (h : binV P op t u v = some x) :
    ∃ r,(do eqGuard op t X Y a b; binOp op t a b : Sem Value).run P w = .ok r w ∧ Rep w G r x := by
  unfold binV at h
  split at h
  · rename_i k n k' n'
    cases hu; cases hv
    have hg : (eqGuard op t X Y (.int k n) (.int k' n')).run P w = .ok () w := eqGuard_run (G := G) (.int k n) (.int k' n') (by simp) (by simp) (by simp)
    simp only [Sem.run_bind,hg,Result.andThen_ok]
    split at h
    · rw [binOp_type op t 0]; exact shiftOp_run h
    · rename_i hop
      split at h
      · rename_i hk; subst hk
        rw [binOp_type op t 0]
        exact intOp_run h ⟨fun e => hop (.inl e),fun e => hop (.inr e)⟩
      · simp at h
  · cases hu with | str s1 =>
    cases hv with | str s2 =>
    have hg : (eqGuard op t X Y (.string s1) (.string s2)).run P w = .ok () w := eqGuard_run (G := G) (.str s1) (.str s2) (by simp) (by simp) (by simp)
    simp only [Sem.run_bind,hg,Result.andThen_ok]
    rw [binOp_type_str op t 0]; exact strOp_run h
  · rename_i hni hns
    split at h
    · simp only [Option.map_eq_some_iff] at h
      obtain ⟨r,hr,rfl⟩ := h
      obtain ⟨h1,h2,h3,h4,h5,h6⟩ := equal_run hu hv hr
      refine ⟨.bool r, ?_, .bool r⟩
      simp only [Sem.run_bind,eqGuard_run hu hv h2 h3 h4,Result.andThen_ok]
      have : binOp .eql t a b = (do pure (.bool (← Op.equal t a b)) : Sem Value) := by
        cases hu <;> first | (exact absurd rfl (h5 _ _)) | (exact absurd rfl (h6 _)) | (exact absurd rfl h2) | (cases hv <;> first | rfl | (exact absurd rfl h3))
      rw [this]
      simp [h1]
    · simp only [Option.map_eq_some_iff] at h
      obtain ⟨r,hr,rfl⟩ := h
      obtain ⟨h1,h2,h3,h4,h5,h6⟩ := equal_run hu hv hr
      refine ⟨.bool (!r), ?_, .bool _⟩
      simp only [Sem.run_bind,eqGuard_run hu hv h2 h3 h4,Result.andThen_ok]
      have : binOp .neq t a b = (do pure (.bool (!(← Op.equal t a b))) : Sem Value) := by
        cases hu <;> first | (exact absurd rfl (h5 _ _)) | (exact absurd rfl (h6 _)) | (exact absurd rfl h2) | (cases hv <;> first | rfl | (exact absurd rfl h3))
      rw [this]
      simp [h1]
    · simp at h
end
end Go.PV
