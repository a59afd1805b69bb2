/- Quiet operations: the rest of those that make no memory. -/
import Derived.Test.YtpgfcfojojemjaaPVh
namespace Go.PV
set_option linter.unusedVariables false
set_option linter.unusedSimpArgs false
section
variable {P : Program} {w0 w : World} {G0 G : Gh} {s : St} {a : Act} {heap : List (List V)} {own : List (Nat × Nat)} {next : Nat}

theorem un_run {op : UnOp} {x r : V} {v : Value} (hx : Rep w G v x) (h : unV op x = some r) : ∃ v', (Op.unary op v).run P w = .ok v' w ∧ Rep w G v' r := by
  unfold unV at h
  split at h
  · obtain rfl := Option.some.inj h
    cases hx
    exact ⟨_,by simp [Op.unary,Op.intArith], .int _ _⟩
  · cases hx
    rename_i k n
    simp only [Op.unary]
    have := intOp_run (P := P) (w := w) (G := G) h (by constructor <;> simp)
    simpa [binOp] using this
  · obtain rfl := Option.some.inj h
    cases hx
    exact ⟨_,by simp [Op.unary], .bool _⟩
  · simp at h

theorem len_run {t : TypeId} {x r : V} {v : Value} (hx : Rep w G v x) (h : lenV P t x = some r) (ts : Array TypeId) (ht : ts[0]? = some t) (ty : TypeId) :
    ∃ v',(Builtin.len_ ts ty #[v]).run P w = .ok v' w ∧ Rep w G v' r := by
  unfold lenV at h
  split at h
  · rename_i i hi
    obtain ⟨info,d,h1,h2,rfl⟩ := ti_spec hi
    simp only at h
    split at h
    · rename_i hd
      obtain rfl := Option.some.inj h
      cases d <;> simp [tdOf] at hd
      cases hx with
      | str st =>
        refine ⟨goInt st.size, ?_, ?_⟩
        · simp [Builtin.len_,ht,run_und h2]
        · have := Rep.int (w := w) (G := G) .i64 (st.size : Int)
          rwa [show st.data.toList.length = st.size from Array.length_toList]
    · rename_i n e hd
      obtain rfl := Option.some.inj h
      cases d <;> simp [tdOf] at hd
      obtain ⟨rfl,rfl⟩ := hd
      exact ⟨goInt _,by simp [Builtin.len_,ht,run_und h2], .int _ _⟩
    · rename_i hd
      obtain rfl := Option.some.inj h
      cases d <;> simp [tdOf] at hd
      cases hx
      exact ⟨goInt 0,by simp [Builtin.len_,ht,run_und h2], .int _ _⟩
    · rename_i hd
      obtain rfl := Option.some.inj h
      cases d <;> simp [tdOf] at hd
      obtain ⟨B,o,cap,sp,rfl,hX,hsp⟩ := hx.slice_inv
      exact ⟨goInt _,by simp [Builtin.len_,ht,run_und h2], .int _ _⟩
    · simp at h
  · simp at h

theorem mmG_run (mx : Bool) (k : IntKind) : ∀ (xs : List V) (vs : List Value) (n : Int) (r : V), LR w G vs xs → mmG mx k n xs = some r →
    ∃ v',(vs.foldlM (if mx then Builtin.max2 else Builtin.min2) (.int k n)).run P w = .ok v' w ∧ Rep w G v' r
  | [], [],n,r,hl,h => by
    obtain rfl := Option.some.inj h
    exact ⟨_,rfl, .int _ _⟩
  | [],_ :: _,_,_,hl,_ => by have := hl.len; simp at this
  | _ :: _, [],_,_,hl,_ => by have := hl.len; simp at this
  | x :: xs,v :: vs,n,r,hl,h => by
    cases x <;> simp only [mmG] at h <;> first | (simp at h; done) | skip
    rename_i k' m
    split at h
    · rename_i hk; subst hk
      have hv := hl.rep 0 _ rfl
      simp only [List.getD_cons_zero] at hv
      cases hv
      obtain ⟨v',h1,h2⟩ := mmG_run mx k xs vs _ r ⟨by have := hl.len; simpa using this,fun j y hj => by have := hl.rep (j + 1) y (by simpa using hj); simpa using this⟩ h
      refine ⟨v', ?_,h2⟩
      rw [List.foldlM_cons,Sem.run_bind]
      cases mx <;> simpa [Builtin.max2,Builtin.min2] using h1
    · simp at h

theorem mm_run {mx : Bool} {xs : List V} {vs : Array Value} {r : V} (hl : LR w G vs.toList xs) (h : mmV mx xs = some r) (ts : Array TypeId) (ty : TypeId) :
    ∃ v',(if mx then Builtin.max_ ts ty vs else Builtin.min_ ts ty vs).run P w = .ok v' w ∧ Rep w G v' r := by
  cases xs with
  | nil => simp [mmV] at h
  | cons x xs =>
    cases x <;> simp only [mmV] at h <;> first | (simp at h; done) | skip
    rename_i k n
    unfold Builtin.max_ Builtin.min_
    cases hv : vs.toList with
    | nil => rw [hv] at hl; have := hl.len; simp at this
    | cons v vs' =>
      rw [hv] at hl
      have hv0 := hl.rep 0 _ rfl
      simp only [List.getD_cons_zero] at hv0
      cases hv0
      obtain ⟨v',h1,h2⟩ := mmG_run (P := P) mx k xs vs' n r ⟨by have := hl.len; simpa using this,fun j y hj => by have := hl.rep (j + 1) y (by simpa using hj); simpa using this⟩ h
      refine ⟨v', ?_,h2⟩
      cases mx <;> simpa using h1

theorem field_run {t : TypeId} {x r : V} {v : Value} {f : Nat} (hx : Rep w G v x) (h : fieldV P t x f = some r) : ∃ v', (Instr.field t v f).run P w = .ok v' w ∧ Rep w G v' r := by
  unfold fieldV at h
  split at h
  · rename_i i cs hi
    obtain ⟨info,d,h1,h2,rfl⟩ := ti_spec hi
    cases hx with
    | agg xs _ hsz hr =>
    simp only at h
    split at h
    · rename_i fs hd
      cases d <;> simp [tdOf] at hd
      rename_i fs'
      subst hd
      split at h
      · rename_i off ft hf
        split at h
        · rename_i fi hfi
          obtain ⟨v',h3,h4⟩ := run_partV (P := P) hfi hsz hr h
          rw [List.getElem?_map,Option.map_eq_some_iff] at hf
          obtain ⟨fd,hfd,he⟩ := hf
          obtain ⟨rfl,rfl⟩ := Prod.mk.inj he
          have hfd' : fs'[f]? = some fd := by simpa using hfd
          refine ⟨v', ?_,h4⟩
          simp [Instr.field,run_und h2,hfd',asAgg,h3]
        · simp at h
      · simp at h
    · simp at h
  · simp at h

theorem fieldAddr_run (I : Inv w0 G0 heap own next w G) {t : TypeId} {x r : V} {v : Value} {f : Nat} (hx : Rep w G v x) (h : fieldAddrV P t x f = some r) :
    ∃ v',(Instr.fieldAt t v f).run P w = .ok v' w ∧ Rep w G v' r := by
  unfold fieldAddrV at h
  split at h
  · rename_i i hi
    obtain ⟨info,d,h1,h2,rfl⟩ := ti_spec hi
    simp only at h
    split at h
    · rename_i fs hd
      cases d <;> simp [tdOf] at hd
      rename_i fs'
      subst hd
      split at h
      · rename_i off ft hf
        split at h
        · rename_i fi hfi
          obtain ⟨info',d',h1',h2',rfl⟩ := ti_spec hfi
          rw [List.getElem?_map,Option.map_eq_some_iff] at hf
          obtain ⟨fd,hfd,he⟩ := hf
          obtain ⟨rfl,rfl⟩ := Prod.mk.inj he
          have hfd' : fs'[f]? = some fd := by simpa using hfd
          split at h
          · simp at h
          · rename_i hz
            simp only at hz
            have hplace : ∀ B o,(Instr.fieldAt t (.pointer (some ⟨B,o,none⟩)) f).run P w = .ok (.pointer (some ⟨B,o + fd.offset,none⟩)) w := fun B o => by
              simp [Instr.fieldAt,run_und h2,hfd',Instr.sureAddr,fieldPlace,run_size h1',hz,add_mk]
            split at h
            · obtain rfl := Option.some.inj h
              cases hx with
              | ptr b o hb => exact ⟨_,hplace _ _, .ptr _ _ hb⟩
            · obtain rfl := Option.some.inj h
              cases hx with
              | rptr B o cs vs hc hS hR =>
              refine ⟨_,hplace _ _, .rptr B (o + fd.offset) _ (fun k => vs (fd.offset + k)) (fun y hy => hc y (List.mem_of_mem_drop hy)) (fun k y hk => ?_) (fun k y hk => ?_)⟩
              · rw [List.getElem?_drop] at hk
                have := hS _ y hk
                rwa [← Nat.add_assoc] at this
              · rw [List.getElem?_drop] at hk
                exact hR _ y hk
            · simp at h
        · simp at h
      · simp at h
    · simp at h
  · simp at h

theorem Rep.rdrop {B o : Nat} {cs : List V} (h : Rep w G (.pointer (some ⟨B, o, none⟩)) (.rptr cs)) (n : Nat) : Rep w G (.pointer (some ⟨B, o + n, none⟩)) (.rptr (cs.drop n)) := by
  cases h with
  | rptr _ _ _ vs hc hS hR =>
    refine .rptr B (o + n) _ (fun k => vs (n + k)) (fun y hy => hc y (List.mem_of_mem_drop hy)) (fun k y hk => ?_) (fun k y hk => ?_)
    · rw [List.getElem?_drop] at hk
      have := hS _ y hk
      rwa [← Nat.add_assoc] at this
    · rw [List.getElem?_drop] at hk
      exact hR _ y hk

theorem indexAddr_run {t : TypeId} {x y r : V} {v u : Value} (hx : Rep w G v x) (hy : Rep w G u y) (h : indexAddrV P t x y = some r) :
    ∃ v',(Instr.indexAt t v u).run P w = .ok v' w ∧ Rep w G v' r := by
  unfold indexAddrV at h
  split at h
  · rename_i i k n hi
    obtain ⟨info,d,h1,h2,rfl⟩ := ti_spec hi
    cases hy
    simp only at h
    split at h
    · rename_i len e b o hd
      cases d <;> simp [tdOf] at hd
      obtain ⟨rfl,rfl⟩ := hd
      split at h
      · rename_i ie hie
        obtain ⟨info',d',h1',h2',rfl⟩ := ti_spec hie
        split at h
        · rename_i hb
          obtain rfl := Option.some.inj h
          cases hx with
          | ptr _ _ hbn =>
          refine ⟨_, ?_, .ptr b _ hbn⟩
          simp [Instr.indexAt,asIntOf_run,run_und h2,Instr.sureAddr,hb,run_size h1',add_mk]
        · simp at h
      · simp at h
    · rename_i len e cs hd
      cases d <;> simp [tdOf] at hd
      obtain ⟨rfl,rfl⟩ := hd
      split at h
      · rename_i ie hie
        obtain ⟨info',d',h1',h2',rfl⟩ := ti_spec hie
        split at h
        · rename_i hb
          obtain rfl := Option.some.inj h
          obtain ⟨B,o,rfl,_⟩ : ∃ B o,v = .pointer (some ⟨B,o,none⟩) ∧ True := by
            cases hx; exact ⟨_,_,rfl,trivial⟩
          refine ⟨_, ?_,hx.rdrop _⟩
          simp [Instr.indexAt,asIntOf_run,run_und h2,Instr.sureAddr,hb,run_size h1',add_mk]
        · simp at h
      · simp at h
    · rename_i e sz l ex tok hd
      cases d <;> simp [tdOf] at hd
      subst hd
      split at h
      · rename_i ie hie
        obtain ⟨info',d',h1',h2',rfl⟩ := ti_spec hie
        split at h
        · rename_i hb
          simp only at hb
          split at h
          · rename_i xv hxv
            obtain rfl := Option.some.inj h
            obtain ⟨B,o,cap,sp,rfl,hX,hsp⟩ := hx.slice_inv
            have hlt := (List.getElem?_eq_some_iff.1 hxv).1
            have hmem := List.mem_of_getElem? hxv
            obtain rfl : sp = none := hsp.resolve_right (by have := hX.hcap; omega)
            have hn : 0 ≤ n ∧ n < l.length := ⟨hb.2,by omega⟩
            refine ⟨.pointer (some ⟨B,o + n.toNat * sz,none⟩), ?_, ?_⟩
            · simp [Instr.indexAt,asIntOf_run,run_und h2,hn,run_size h1',add_mk,hb.1]
            · have hget : ∀ j y,xv.cells[j]? = some y → (flat l)[n.toNat * sz + j]? = some y := fun j y hj => flat_get (fun x hx => (hX.hel x hx).1) hxv hj
              refine .rptr B _ _ (fun j => (w.cell? ⟨B,o + n.toNat * sz + j,none⟩).getD undef) (fun y hy => ?_) (fun j y hj => ?_) (fun j y hj => ?_)
              · have := (hX.hel xv hmem).2
                simp only [V.clean,List.all_eq_true] at this
                exact this y hy
              · obtain ⟨m1,v1,m2,m3⟩ := hX.mem _ y (hget j y hj)
                rw [← Nat.add_assoc] at m1 m2
                exact ⟨m1,by rw [m2]; rfl⟩
              · obtain ⟨m1,v1,m2,m3⟩ := hX.mem _ y (hget j y hj)
                rw [← Nat.add_assoc] at m1 m2
                rw [m2]; exact m3
          · simp at h
        · simp at h
      · simp at h
    · simp at h
  · simp at h

theorem index_run {t : TypeId} {x y r : V} {v u : Value} (hx : Rep w G v x) (hy : Rep w G u y) (h : indexV P t x y = some r) :
    ∃ v',(Instr.index t v u).run P w = .ok v' w ∧ Rep w G v' r := by
  unfold indexV at h
  split at h
  · rename_i i k n hi
    obtain ⟨info,d,h1,h2,rfl⟩ := ti_spec hi
    cases hy
    simp only at h
    split at h
    · rename_i len e cs hd
      cases d <;> simp [tdOf] at hd
      obtain ⟨rfl,rfl⟩ := hd
      split at h
      · rename_i ie hie
        have hie' := hie
        obtain ⟨info',d',h1',h2',rfl⟩ := ti_spec hie
        split at h
        · rename_i hb
          cases hx with
          | agg xs _ hsz hr =>
          obtain ⟨v',h3,h4⟩ := run_partV (P := P) hie' hsz hr h
          refine ⟨v', ?_,h4⟩
          simp only at h3
          simp [Instr.index,asIntOf_run,run_und h2,hb,run_size h1',h3]
        · simp at h
      · simp at h
    · rename_i st hd
      cases d <;> simp [tdOf] at hd
      split at h
      · rename_i hn
        split at h
        · rename_i b hb
          obtain rfl := Option.some.inj h
          cases hx with
          | str st =>
          have hb' : st[n.toNat]? = some b := by
            have h1 : st.data[n.toNat]? = some b := by simpa using hb
            obtain ⟨h2,h3⟩ := Array.getElem?_eq_some_iff.1 h1
            rw [getElem?_pos st n.toNat h2]
            exact congrArg some h3
          refine ⟨_, ?_,byteV_rep b w G⟩
          simp [Instr.index,asIntOf_run,run_und h2,hn,hb']
        · simp at h
      · simp at h
    · simp at h
  · simp at h

theorem extract_run {r : V} {v : Value} {k : Nat} {vs : List V} (hx : Rep w G v (.tup vs)) (h : vs[k]? = some r) : ∃ v', (Instr.extract v k).run P w = .ok v' w ∧ Rep w G v' r := by
  cases hx with
  | tup xs _ hs hr =>
    have hlt := (List.getElem?_eq_some_iff.1 h).1
    have h1 : xs[k]? = some (xs.getD k undef) := by simp [show k < xs.size from by omega]
    exact ⟨_,by simp only [Instr.extract,h1]; rfl,hr k r h⟩
end
end Go.PV
