/- Quiet operations, one lemma a kind. -/
import Derived.Test.YtpgfcfojojemjaaPVg
namespace Go.PV
set_option linter.unusedVariables false
set_option linter.unusedSimpArgs false

/-- the operation yields a value that is represented; world and ghost have only grown -/
def Good (P : Program) (w0 : World) (G0 : Gh) (heap : List (List V)) (own : List (Nat × Nat)) (next : Nat) (c : Sem Next) (w : World) (G : Gh) (x : V) : Prop :=
  ∃ v w' G',c.run P w = .ok (.value v) w' ∧ Rep w' G' v x ∧ Inv w0 G0 heap own next w' G' ∧ Mono w G w' G'

section
variable {P : Program} {w0 w : World} {G0 G : Gh} {s : St} {a : Act} {heap : List (List V)} {own : List (Nat × Nat)} {next : Nat}

theorem Good.of (I : Inv w0 G0 heap own next w G) {c : Sem Value} {x : V} {v : Value} (h : c.run P w = .ok v w) (hr : Rep w G v x) :
    Good P w0 G0 heap own next (do pure (.value (← c))) w G x :=
  ⟨v,w,G,by simp [h],hr,I,Mono.refl _ _⟩
theorem Good.pure (I : Inv w0 G0 heap own next w G) {x : V} {v : Value} (hr : Rep w G v x) :
    Good P w0 G0 heap own next (pure (.value v)) w G x :=
  ⟨v,w,G,rfl,hr,I,Mono.refl _ _⟩

theorem load_good (I : Inv w0 G0 heap own next w G) (hh : s.heap = heap) {t : TypeId} {i : TI} (ht : ti P t = some i) {v : Value} {p x : V} (hp : Rep w G v p) {cs : List V}
    (hc : cellsOf s p = some cs) (hx : loadV i cs = some x) : Good P w0 G0 heap own next (do pure (.value (← Instr.loadAt t v))) w G x := by
  obtain ⟨B,o,rfl,hm⟩ := cellsOf_mem I hh hp hc
  obtain ⟨r,h1,h2⟩ := run_loadV (P := P) ht hm hx
  exact Good.of I (by simp [Instr.loadAt,Instr.sureAddr,h1]) h2

theorem bound_run {x : Option V} {v : Option Value} (hx : match x, v with | some x, some v => Rep w G v x | none, none => True | _, _ => False) {d most n : Nat} (h : boundV x d most = some n)
    (hd : d ≤ most) (code : BoundsCode) : (match v with | some v => Instr.sliceBound v most code | none => pure d : Sem Nat).run P w = .ok n w ∧ n ≤ most := by
  cases x with
  | none =>
    cases v with
    | some v => simp at hx
    | none => obtain rfl := Option.some.inj h; exact ⟨rfl,hd⟩
  | some x =>
    cases v with
    | none => simp at hx
    | some v =>
      simp only [boundV] at h
      split at h
      · simp at *
      · rename_i k m hm
        obtain rfl : x = .int k m := by simpa using hm
        cases hx
        split at h
        · rename_i hb
          obtain rfl := Option.some.inj h
          refine ⟨?_,by omega⟩
          simp [Instr.sliceBound,asIntOf_run,hb]
        · simp at h
      · simp at h

/-- an optional bound, represented -/
def OR (w : World) (G : Gh) (x : Option V) (v : Option Value) : Prop := match x, v with
  | some x,some v => Rep w G v x
  | none,none => True
  | _,_ => False
theorem evO_rep (hs : SR w G a.tmps s.slots) {x : Option Operand} {v : Option V} (h : evO s x = some v) : OR w G v (x.map a.eval) := by
  cases x with
  | none => obtain rfl := Option.some.inj h; trivial
  | some x =>
    simp only [evO,Option.map_eq_some_iff] at h
    obtain ⟨y,hy,rfl⟩ := h
    exact ev_rep hs hy

theorem bounds2 {lo hi : Option V} {vlo vhi : Option Value} (hlo : OR w G lo vlo) (hhi : OR w G hi vhi) (isS : Bool) {len cap h k : Nat} (hl : len ≤ cap)
    (h1 : boundV hi len cap = some h) (h2 : boundV lo 0 h = some k) : (Instr.sliceBounds isS len cap vlo vhi none).run P w = .ok (k,h,cap) w ∧ k ≤ h ∧ h ≤ cap := by
  obtain ⟨r1,b1⟩ := bound_run (P := P) (x := hi) (v := vhi) hhi h1 hl (if isS then .sliceAcap else .sliceAlen)
  obtain ⟨r2,b2⟩ := bound_run (P := P) (x := lo) (v := vlo) hlo h2 (Nat.zero_le _) .sliceB
  refine ⟨?_,b2,b1⟩
  unfold Instr.sliceBounds
  cases vhi <;> cases vlo <;> simp_all

theorem bounds3 {lo hi mx : Option V} {vlo vhi vmx : Option Value} (hlo : OR w G lo vlo) (hhi : OR w G hi vhi) (hmx : OR w G mx vmx) {len cap m h k : Nat}
    (hm : mx.isSome = true) (hh : hi.isSome = true) (h0 : boundV mx 0 cap = some m) (h1 : boundV hi 0 m = some h) (h2 : boundV lo 0 h = some k) :
    (Instr.sliceBounds true len cap vlo vhi vmx).run P w = .ok (k,h,m) w ∧ k ≤ h ∧ h ≤ m ∧ m ≤ cap := by
  obtain ⟨r0,b0⟩ := bound_run (P := P) (x := mx) (v := vmx) hmx h0 (Nat.zero_le _) .slice3Acap
  obtain ⟨r1,b1⟩ := bound_run (P := P) (x := hi) (v := vhi) hhi h1 (Nat.zero_le _) .slice3B
  obtain ⟨r2,b2⟩ := bound_run (P := P) (x := lo) (v := vlo) hlo h2 (Nat.zero_le _) .slice3C
  refine ⟨?_,b2,b1,b0⟩
  cases mx with
  | none => simp at hm
  | some mx =>
    cases hi with
    | none => simp at hh
    | some hi =>
      cases vmx with
      | none => simp [OR] at hmx
      | some vmx =>
        cases vhi with
        | none => simp [OR] at hhi
        | some vhi =>
          unfold Instr.sliceBounds
          cases vlo <;> simp_all

theorem boundV_mono {x : Option V} {d m m' n : Nat} (h : boundV x d m = some n) (hm : m ≤ m') : boundV x d m' = some n := by
  unfold boundV at h ⊢
  split at h
  · exact h
  · rename_i k z
    split at h
    · rename_i hb
      rw [if_pos ⟨hb.1,by omega⟩]; exact h
    · simp at h
  · simp at h

/-- all that is known of a slice's value -/
structure SliceAt (w : World) (G : Gh) (B o cap sz : Nat) (l : List V) (ex : Bool) (tok : Option Nat) : Prop where
  hcap : l.length ≤ cap
  hex : ex = true → cap = l.length
  hsz : 0 < sz
  hel : ∀ x ∈ l,x.cells.length = sz ∧ x.clean = true
  mem : ∀ k y,(flat l)[k]? = some y → G.S B (o + k) ∧ ∃ v,w.cell? ⟨B,o + k,none⟩ = some v ∧ Rep w G v y
  ht : ∀ id,tok = some id → id < G.nx ∧ l.length ≤ G.mx id ∧ ∀ T,G.tk id l.length = some T → T = ⟨B,o,l.length,cap,sz⟩

theorem Rep.slice_inv {v : Value} {sz : Nat} {l : List V} {ex : Bool} {tok : Option Nat} (h : Rep w G v (.slice sz l ex tok)) :
    ∃ B o cap sp,v = .slice (some ⟨B,o,sp⟩) l.length cap ∧ SliceAt w G B o cap sz l ex tok ∧ (sp = none ∨ cap = 0) := by
  cases h with
  | slice B o _ _ _ _ cap vs hcap hex hsz hel hS hR ht sp hsp =>
    exact ⟨B,o,cap,sp,rfl,⟨hcap,hex,hsz,hel,fun k y hk => ⟨(hS k y hk).1,vs k,(hS k y hk).2,hR k y hk⟩,ht⟩,hsp⟩
theorem SliceAt.repS {B o cap sz : Nat} {l : List V} {ex : Bool} {tok : Option Nat} (h : SliceAt w G B o cap sz l ex tok) {sp : Option Nat} (hsp : sp = none ∨ cap = 0) : Rep w G (.slice (some ⟨B, o, sp⟩) l.length cap) (.slice sz l ex tok) := by
  refine .slice B o sz l ex tok cap (fun k => (w.cell? ⟨B,o + k,none⟩).getD undef) h.hcap h.hex h.hsz h.hel (fun k y hk => ?_) (fun k y hk => ?_) h.ht sp hsp
  · obtain ⟨h1,v,h2,_⟩ := h.mem k y hk
    exact ⟨h1,by rw [h2]; rfl⟩
  · obtain ⟨h1,v,h2,h3⟩ := h.mem k y hk
    rw [h2]; exact h3

theorem SliceAt.rep {B o cap sz : Nat} {l : List V} {ex : Bool} {tok : Option Nat} (h : SliceAt w G B o cap sz l ex tok) : Rep w G (.slice (some ⟨B, o, none⟩) l.length cap) (.slice sz l ex tok) := h.repS (.inl rfl)

/-- all cells of a slice, read -/
theorem SliceAt.cells {B o cap sz : Nat} {l : List V} {ex : Bool} {tok : Option Nat} (h : SliceAt w G B o cap sz l ex tok) {sp : Option Nat} (hsp : sp = none ∨ cap = 0) :
    ∃ vs : Array Value,(loadCells ⟨B,o,sp⟩ (flat l).length).run P w = .ok vs w ∧ vs.size = (flat l).length ∧ ∀ k y,(flat l)[k]? = some y → Rep w G (vs.getD k undef) y := by
  rcases hsp with rfl | h0
  · exact run_cells (P := P) fun k y hk => (h.mem k y hk).2
  · have hl : l = [] := List.eq_nil_of_length_eq_zero (by have := h.hcap; omega)
    subst hl
    have := run_loadCells (P := P) w ⟨B,o,sp⟩ 0 (fun _ => undef) (fun j hj => by omega)
    exact ⟨_,this,by simp [flat],fun k y hk => by simp [flat] at hk⟩
/-- a piece of a slice's elements -/
theorem SliceAt.piece {B o sz cap : Nat} {l : List V} {ex : Bool} {tok : Option Nat} (h : SliceAt w G B o cap sz l ex tok) {k n m : Nat} {ex' : Bool}
    (hk : k ≤ n) (hn : n ≤ l.length) (hm : n ≤ m) (he : ex' = true → m = n) {sp : Option Nat} :
    Rep w G (.slice (some (if m = k then ⟨B,o,sp⟩ else ⟨B,o + k * sz,none⟩)) (n - k) (m - k)) (.slice sz ((l.take n).drop k) ex' none) := by
  have hlen : ((l.take n).drop k).length = n - k := by simp; omega
  have hfl : flat ((l.take n).drop k) = (flat (l.take n)).drop (k * sz) := by
    have h1 : flat (l.take n) = flat ((l.take n).take k) ++ flat ((l.take n).drop k) := by rw [← flat_append,List.take_append_drop]
    have h2 : (flat ((l.take n).take k)).length = k * sz := by
      rw [flat_length (sz := sz) (fun x hx => (h.hel x (List.mem_of_mem_take (List.mem_of_mem_take hx))).1)]
      congr 1; simp; omega
    rw [h1,List.drop_left' h2]
  have hft : ∀ (j : Nat) y,(flat (l.take n))[j]? = some y → (flat l)[j]? = some y := by
    intro j y hj
    have h1 : flat l = flat (l.take n) ++ flat (l.drop n) := by rw [← flat_append,List.take_append_drop]
    rw [h1,List.getElem?_append_left (List.getElem?_eq_some_iff.1 hj).1]; exact hj
  have hel' : ∀ x ∈ (l.take n).drop k,x.cells.length = sz ∧ x.clean = true := fun x hx => h.hel x (List.mem_of_mem_take (List.mem_of_mem_drop hx))
  have e : (n - k) = ((l.take n).drop k).length := hlen.symm
  rw [e]
  split
  · rename_i hmk
    have h0 : (l.take n).drop k = [] := List.eq_nil_of_length_eq_zero (by omega)
    rw [h0]
    exact SliceAt.repS ⟨by simp,fun _ => by simp; omega,h.hsz,by simp,fun j y hj => by simp [flat] at hj,by simp⟩ (.inr (by omega))
  · refine SliceAt.rep ⟨by omega,fun hx => by have := he hx; omega,h.hsz,hel', ?_,by simp⟩
    intro j y hj
    rw [hfl,List.getElem?_drop] at hj
    have := h.mem _ y (hft _ y hj)
    rwa [← Nat.add_assoc] at this

theorem slice_run {t : TypeId} {x r : V} {v : Value} (hx : Rep w G v x) {lo hi mx : Option V} {vlo vhi vmx : Option Value} (hlo : OR w G lo vlo) (hhi : OR w G hi vhi) (hmx : OR w G mx vmx)
    (h : sliceV P t x lo hi mx = some r) : ∃ v',(Instr.sliceAt t v vlo vhi vmx).run P w = .ok v' w ∧ Rep w G v' r := by
  unfold sliceV at h
  split at h
  · rename_i i hi'
    obtain ⟨info,d,h1,h2,rfl⟩ := ti_spec hi'
    simp only at h
    split at h
    · rename_i hd
      cases d <;> simp [tdOf] at hd
      split at h
      · simp at h
      · rename_i hmn
        have hmn' : vmx = none := by
          cases mx with
          | some m => simp at hmn
          | none => cases vmx with
            | none => rfl
            | some v => simp [OR] at hmx
        subst hmn'
        split at h
        · rename_i n hn
          split at h
          · rename_i k hk
            obtain rfl := Option.some.inj h
            cases hx with
            | str st =>
              have hl : st.data.toList.length = st.size := Array.length_toList
              rw [hl] at hn
              obtain ⟨hb,hb1,hb2⟩ := bounds2 (P := P) hlo hhi false (Nat.le_refl _) hn hk
              refine ⟨.string (st.extract k n), ?_, ?_⟩
              · simp [Instr.sliceAt,run_und h2,Instr.slice,hb]
              · have := Rep.str (w := w) (G := G) (st.extract k n)
                rwa [show (st.extract k n).data.toList = (st.data.toList.take n).drop k from by rw [ByteArray.data_extract,Array.toList_extract,List.extract_eq_take_drop,List.drop_take]] at this
          · simp at h
        · simp at h
    · rename_i e hd
      cases d with
      | slice e' => 
      obtain rfl : e' = e := by simpa [tdOf] using hd
      split at h
      · simp at h
      · rename_i hmn
        rw [not_or] at hmn
        have hmn' : vmx = none := by
          cases mx with
          | some m => simp at hmn
          | none => cases vmx with
            | none => rfl
            | some v => simp [OR] at hmx
        subst hmn'
        obtain ⟨ie,hie⟩ : ∃ ie,ti P e' = some ie := by
          cases h0 : ti P e' with
          | none => exact absurd (by rw [h0]; rfl) hmn.2
          | some ie => exact ⟨ie,rfl⟩
        obtain ⟨info',d',h1',h2',rfl⟩ := ti_spec hie
        split at h
        · rename_i n hn
          split at h
          · rename_i k hk
            obtain rfl := Option.some.inj h
            cases hx with
            | nils =>
              obtain ⟨hb,hb1,hb2⟩ := bounds2 (P := P) hlo hhi true (Nat.le_refl _) hn hk
              obtain ⟨rfl,rfl⟩ : n = 0 ∧ k = 0 := ⟨by omega,by omega⟩
              refine ⟨.slice none 0 0, ?_, .nils⟩
              simp only [Instr.sliceAt,Sem.run_bind,run_und h2,Result.andThen_ok,Instr.slice,hb,run_size h1']
              simp
          · simp at h
        · simp at h
      | _ => simp [tdOf] at hd
    · rename_i e sz l ex tok hd
      cases d <;> simp [tdOf] at hd
      subst hd
      split at h
      · rename_i ie hie
        obtain ⟨info',d',h1',h2',rfl⟩ := ti_spec hie
        split at h
        · simp at h
        · rename_i hsz
          have hsz' : info'.size = sz := by simpa using hsz
          obtain ⟨B,o,cap,sp,rfl,hX,hsp⟩ := hx.slice_inv
          have hcap := hX.hcap
          have hex := hX.hex
          split at h
          · have hmn' : vmx = none := by
              cases vmx with
              | none => rfl
              | some v => simp [OR] at hmx
            subst hmn'
            split at h
            · rename_i n hn
              split at h
              · rename_i k hk
                obtain rfl := Option.some.inj h
                obtain ⟨hb,hb1,hb2⟩ := bounds2 (P := P) hlo hhi true hcap (boundV_mono hn hcap) hk
                have hnl : n ≤ l.length := by
                  have := (bound_run (P := P) (w := w) hhi hn (Nat.le_refl _) .index).2
                  exact this
                refine ⟨_, ?_,hX.piece (sp := sp) (k := k) (n := n) (m := cap) hb1 hnl hb2 (fun he => ?_)⟩
                · rcases hsp with rfl | h0
                  · simp only [Instr.sliceAt,Sem.run_bind,run_und h2,Result.andThen_ok,Instr.slice,hb,run_size h1',hsz']
                    split <;> simp_all [add_mk]
                  · obtain rfl : cap = k := by omega
                    simp only [Instr.sliceAt,Sem.run_bind,run_und h2,Result.andThen_ok,Instr.slice,hb,run_size h1',hsz']
                    simp
                · simp only [Bool.and_eq_true,beq_iff_eq] at he
                  have := hex he.1; omega
              · simp at h
            · simp at h
          · rename_i mv
            split at h
            · rename_i m hm
              split at h
              · simp at h
              · rename_i hin
                split at h
                · rename_i n hn
                  split at h
                  · rename_i k hk
                    obtain rfl := Option.some.inj h
                    obtain ⟨hb,hb1,hb2,hb3⟩ := bounds3 (P := P) hlo hhi hmx (len := l.length) rfl (by cases hi <;> simp at hin ⊢) (boundV_mono hm hcap) hn hk
                    have hml : m ≤ l.length := (bound_run (P := P) (w := w) hmx hm (Nat.zero_le _) .index).2
                    refine ⟨_, ?_,hX.piece (sp := sp) (k := k) (n := n) (m := m) hb1 (by omega) hb2 (fun he => by simpa using he)⟩
                    rcases hsp with rfl | h0
                    · simp only [Instr.sliceAt,Sem.run_bind,run_und h2,Result.andThen_ok,Instr.slice,hb,run_size h1',hsz']
                      split <;> simp_all [add_mk]
                    · obtain rfl : m = k := by omega
                      simp only [Instr.sliceAt,Sem.run_bind,run_und h2,Result.andThen_ok,Instr.slice,hb,run_size h1',hsz']
                      simp
                  · simp at h
                · simp at h
            · simp at h
      · simp at h
    · simp at h
  · simp at h
end
end Go.PV
