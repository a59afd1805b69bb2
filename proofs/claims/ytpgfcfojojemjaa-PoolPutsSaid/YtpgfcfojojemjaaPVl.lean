/- Every quiet operation: the model does what 'opV' says. -/
import Derived.Test.YtpgfcfojojemjaaPVk
namespace Go.PV
set_option linter.unusedVariables false
set_option linter.unusedSimpArgs false
section
variable {P : Program} {w0 w : World} {G0 G : Gh} {s : St} {a : Act} {heap : List (List V)} {own : List (Nat × Nat)} {next : Nat}

theorem flat_bytes (bs : List UInt8) : flat (bs.map byteV) = bs.map byteV := by
  induction bs with
  | nil => rfl
  | cons b bs ih => rw [List.map_cons,flat_cons,ih]; rfl

theorem bytesSlice_good (I : Inv w0 G0 heap own next w G) {src dst e : TypeId} (st : ByteArray) (hs : P.underlying src = some .string) (hd : P.underlying dst = some (.slice e)) (he : P.underlying e = some (.int .u8)) :
    Good P w0 G0 heap own next (do pure (.value (← convert src dst (.string st)))) w G (.slice 1 (st.data.toList.map byteV) false none) := by
  have hr := run_bytes_of_string w src dst e st hs hd he
  have hcap := grownCap_ge w st.size 0 e
  generalize grownCap w st.size 0 e = cap at hr hcap
  have hsz : (bytesRow st cap).size = cap := by
    simp only [bytesRow,Array.size_append,Array.size_map,Array.size_replicate]
    have : st.data.size = st.size := rfl
    omega
  obtain ⟨I1,m1⟩ := I.same (w' := w.drew) rfl rfl rfl rfl
  obtain ⟨I2,m2⟩ := newRow_good I1 (bytesRow st cap) e ((bytesRow st cap).size,(bytesRow st cap).size + 1) st.size (by omega)
  refine ⟨.slice (some ⟨w.heap.size,0,none⟩) st.size cap,_,_,by simp only [Sem.run_bind,hr,Result.andThen_ok,Sem.run_pure], ?_,I2,m1.trans m2⟩
  have hl : (st.data.toList.map byteV).length = st.size := by rw [List.length_map]; exact Array.length_toList
  have := SliceAt.rep (w := w.drew.alloc (.cells (bytesRow st cap) e ((bytesRow st cap).size,(bytesRow st cap).size + 1))) (G := G.addS w.drew.heap.size 0 st.size)
    (B := w.heap.size) (o := 0) (cap := cap) (sz := 1) (l := st.data.toList.map byteV) (ex := false) (tok := none)
    ⟨by omega,by simp,by omega,fun x hx => by
      obtain ⟨b,hb,rfl⟩ := List.mem_map.1 hx
      exact ⟨rfl,rfl⟩,fun k y hk => by
      rw [flat_bytes] at hk
      have hkl := (List.getElem?_eq_some_iff.1 hk).1
      rw [hl] at hkl
      rw [List.getElem?_map,Option.map_eq_some_iff] at hk
      obtain ⟨b,hb,rfl⟩ := hk
      refine ⟨.inr ⟨rfl,by omega,by omega⟩, .int .u8 b.toNat, ?_,byteV_rep b _ _⟩
      rw [Nat.zero_add,cell_eq (b := w.heap.size) (heap_push_new w.drew _),bytesRow_at st cap k hkl]
      have : st.data[k]'hkl = b := by
        rw [Array.getElem?_toList,Array.getElem?_eq_some_iff] at hb
        exact hb.2
      rw [this],by simp⟩
  rwa [hl] at this

theorem unbyte_run : ∀ {l : List V} {bs : List UInt8} {us : List Value}, unbyte l = some bs → LR w G us l → ∃ ns : List Int, us = ns.map (Value.int .u8) ∧ bs = ns.map (fun n => UInt8.ofNat n.toNat)
  | [],bs,us,h,hl => by
    obtain rfl := Option.some.inj h
    have : us = [] := List.eq_nil_of_length_eq_zero (by simpa using hl.len)
    exact ⟨[],by simp [this],rfl⟩
  | x :: l,bs,us,h,hl => by
    cases us with
    | nil => have := hl.len; simp at this
    | cons u us =>
      have h0 := hl.rep 0 x rfl
      simp only [List.getD_cons_zero] at h0
      cases x <;> first | (simp [unbyte] at h; done) | skip
      rename_i k n
      cases k <;> first | (simp [unbyte] at h; done) | skip
      simp only [unbyte] at h
      split at h
      · rename_i bs' hb
        obtain rfl := Option.some.inj h
        cases h0
        obtain ⟨ns,h1,h2⟩ := unbyte_run hb ⟨by have := hl.len; simpa using this,fun j y hj => by have := hl.rep (j + 1) y (by simpa using hj); simpa using this⟩
        exact ⟨n :: ns,by simp [h1],by simp [h2]⟩
      · simp at h

theorem push_eq : ∀ (ns : List Int) (r : ByteArray), ns.foldl (fun r n => r.push (UInt8.ofNat n.toNat)) r = ⟨r.data ++ (ns.map fun n => UInt8.ofNat n.toNat).toArray⟩
  | [],r => by simp
  | n :: ns,r => by
    rw [List.foldl_cons,push_eq ns]
    simp [ByteArray.push]

theorem conv_good (I : Inv w0 G0 heap own next w G) {src dst : TypeId} {x r : V} {v : Value} (hx : Rep w G v x) (h : convV P src dst x = some r) :
    Good P w0 G0 heap own next (do pure (.value (← convert src dst v))) w G r := by
  unfold convV at h
  split at h
  · rename_i i j hi hj
    obtain ⟨info,d,h1,h2,rfl⟩ := ti_spec hi
    obtain ⟨info',d',h1',h2',rfl⟩ := ti_spec hj
    simp only at h
    split at h
    · rename_i k k' n hd
      obtain rfl := Option.some.inj h
      cases d' <;> simp [tdOf] at hd
      subst hd
      cases hx
      exact Good.of I (v := .int _ _) (by simp [convert,run_und h2,run_und h2',Conv.intToInt]) (.int _ _)
    · rename_i st hd
      obtain rfl := Option.some.inj h
      cases d' <;> simp [tdOf] at hd
      cases hx with
      | str st => exact Good.of I (v := .string st) (by simp [convert,run_und h2,run_und h2']) (.str st)
    · rename_i e st hd
      cases d' with
      | slice e' =>
        obtain rfl : e' = e := by simpa [tdOf] using hd
        split at h
        · rename_i ie hsd hie
          obtain ⟨info'',d'',h1'',h2'',rfl⟩ := ti_spec hie
          simp only at h
          split at h
          · rename_i hde
            split at h
            · obtain rfl := Option.some.inj h
              cases d <;> simp [tdOf] at hsd
              cases d'' <;> simp [tdOf] at hde
              subst hde
              cases hx with
              | str st => exact bytesSlice_good I st h2 h2' h2''
            · simp at h
          · simp at h
        · simp at h
      | _ => simp [tdOf] at hd
    · rename_i hd
      cases d' <;> simp [tdOf] at hd
      split at h
      · rename_i e hse
        cases d with
        | slice e' =>
          obtain rfl : e' = e := by simpa [tdOf] using hse
          split at h
          · rename_i ie hie
            obtain ⟨info'',d'',h1'',h2'',rfl⟩ := ti_spec hie
            simp only at h
            split at h
            · rename_i hde
              obtain rfl := Option.some.inj h
              cases d'' <;> simp [tdOf] at hde
              subst hde
              cases hx
              refine Good.of I (v := .string .empty) ?_ (.str .empty)
              rw [run_convert_bytes_string w src dst e' none 0 0 h2 h2'' h2']
              rfl
            · simp at h
          · simp at h
        | _ => simp [tdOf] at hse
      · simp at h
    · rename_i l ex tok hd
      cases d' <;> simp [tdOf] at hd
      split at h
      · rename_i e hse
        cases d with
        | slice e' =>
          obtain rfl : e' = e := by simpa [tdOf] using hse
          split at h
          · rename_i ie hie
            obtain ⟨info'',d'',h1'',h2'',rfl⟩ := ti_spec hie
            simp only at h
            split at h
            · rename_i hde
              simp only [Option.map_eq_some_iff] at h
              obtain ⟨bs,hbs,rfl⟩ := h
              cases d'' <;> simp [tdOf] at hde
              subst hde
              obtain ⟨B,o,cap,sp,rfl,hX,hsp⟩ := hx.slice_inv
              have hfl : flat l = l := by
                have : ∀ {l : List V} {bs : List UInt8},unbyte l = some bs → flat l = l := by
                  intro l
                  induction l with
                  | nil => intro _ _; rfl
                  | cons x l ih =>
                    intro bs h
                    cases x <;> first | (simp [unbyte] at h; done) | skip
                    rename_i k n
                    cases k <;> first | (simp [unbyte] at h; done) | skip
                    simp only [unbyte] at h
                    split at h
                    · rename_i bs' hb; rw [flat_cons,ih hb]; rfl
                    · simp at h
                exact this hbs
              obtain ⟨vs,hv1,hv2,hv3⟩ := hX.cells (P := P) hsp
              rw [hfl] at hv1 hv2 hv3
              obtain ⟨ns,hn1,hn2⟩ := unbyte_run hbs (⟨by simpa using hv2,fun k y hk => by have := hv3 k y hk; rwa [Array.getD_eq_getD_getElem?,← Array.getElem?_toList,← List.getD] at this⟩ : LR w G vs.toList l)
              have hvs : vs = (ns.map (Value.int .u8)).toArray := by rw [← hn1]
              rw [hvs] at hv1
              refine Good.of I (v := .string ⟨(ns.map fun n => UInt8.ofNat n.toNat).toArray⟩) ?_ ?_
              · rw [run_convert_bytes_string w src dst e' _ _ _ h2 h2'' h2',run_bytesToString w ⟨B,o,sp⟩ l.length cap ns hv1,push_eq]
                have he0 : ByteArray.empty.data = #[] := rfl
                rw [he0]; simp
              · have := Rep.str (w := w) (G := G) ⟨(ns.map fun n => UInt8.ofNat n.toNat).toArray⟩
                simpa [hn2] using this
            · simp at h
          · simp at h
        | _ => simp [tdOf] at hse
      · simp at h
    · simp at h
  · simp at h

theorem LR.func {us : Array Value} {vs : List V} (h : LR w G us.toList vs) (fn : Fn) : Rep w G (.func fn #[] us) (.func fn vs) :=
  .func fn vs us (by simpa using h.len) (fun k y hk => by have := h.rep k y hk; simpa [List.getD] using this)

theorem opV_good (I : Inv w0 G0 s.heap s.own s.next w G) (hs : SR w G a.tmps s.slots) {o : Oper} {x : V} (h : opV P s o.op = some x) :
    Good P w0 G0 s.heap s.own s.next (execOp a.eval o) w G x := by
  obtain ⟨dst,op,ty,pos,after,guard⟩ := o
  simp only at h
  cases op
  case call c => 
    obtain ⟨callee,args,ts⟩ := c
    cases callee with
    | value f => simp [opV] at h
    | invoke r m => simp [opV] at h
    | builtin b =>
      simp only [opV] at h
      split at h
      · rename_i p hp
        split at h
        · rename_i y t hy ht
          have hargs : args = #[p] := by cases args; simp at hp; simp [hp]
          subst hargs
          obtain ⟨r,h1,h2⟩ := len_run (P := P) (ev_rep hs hy) h ts ht ty
          exact ⟨r,w,G,by simp [execOp,resolve,invoke,builtin,h1],h2,I,Mono.refl _ _⟩
        · simp at h
      · split at h
        · rename_i vs hvs
          have hl := evL_rep hs hvs
          obtain ⟨r,h1,h2⟩ := mm_run (P := P) (mx := true) (vs := args.map a.eval) (by simpa using hl) h ts ty
          simp only [if_true] at h1
          exact ⟨r,w,G,by simp [execOp,resolve,invoke,builtin,h1],h2,I,Mono.refl _ _⟩
        · simp at h
      · split at h
        · rename_i vs hvs
          have hl := evL_rep hs hvs
          obtain ⟨r,h1,h2⟩ := mm_run (P := P) (mx := false) (vs := args.map a.eval) (by simpa using hl) h ts ty
          simp only [Bool.false_eq_true,if_false] at h1
          exact ⟨r,w,G,by simp [execOp,resolve,invoke,builtin,h1],h2,I,Mono.refl _ _⟩
        · simp at h
      · simp at h
  all_goals simp only [opV] at h
  all_goals first | (simp at h; done) | skip
  case move y => exact Good.pure I (ev_rep hs h)
  case assign y => exact Good.pure I (ev_rep hs h)
  case pick c p q =>
    split at h
    · rename_i t ht
      have hc := ev_rep hs ht
      generalize hcv : a.eval c = cv at hc
      cases hc
      cases t
      · exact ⟨a.eval q,w,G,by simp [execOp,hcv,asBool],ev_rep hs (by simpa using h),I,Mono.refl _ _⟩
      · exact ⟨a.eval p,w,G,by simp [execOp,hcv,asBool],ev_rep hs (by simpa using h),I,Mono.refl _ _⟩
    · simp at h
  case load t p =>
    split at h
    · rename_i i y hi hy
      split at h
      · rename_i cs hcs
        exact load_good I rfl hi (ev_rep hs hy) hcs h
      · simp at h
    · simp at h
  case nilCheck y =>
    split at h
    · rename_i b off hy
      obtain rfl := Option.some.inj h
      have hr := ev_rep hs hy
      generalize hv : a.eval y = v at hr
      have hr' := hr
      cases hr
      exact ⟨_,w,G,by simp [execOp,hv],hr',I,Mono.refl _ _⟩
    · rename_i cs hy
      obtain rfl := Option.some.inj h
      have hr := ev_rep hs hy
      generalize hv : a.eval y = v at hr
      have hr' := hr
      cases hr
      exact ⟨_,w,G,by simp [execOp,hv],hr',I,Mono.refl _ _⟩
    · rename_i f cs hy
      obtain rfl := Option.some.inj h
      have hr := ev_rep hs hy
      generalize hv : a.eval y = v at hr
      have hr' := hr
      cases hr
      exact ⟨_,w,G,by simp [execOp,hv],hr',I,Mono.refl _ _⟩
    · simp at h
  case binOp op t p q yt =>
    split at h
    · rename_i y z hy hz
      obtain ⟨r,h1,h2⟩ := binV_run (P := P) (X := p) (Y := q) (ev_rep hs hy) (ev_rep hs hz) h
      exact Good.of I h1 h2
    · simp at h
  case unOp op t p =>
    split at h
    · rename_i y hy
      obtain ⟨r,h1,h2⟩ := un_run (P := P) (ev_rep hs hy) h
      exact Good.of I h1 h2
    · simp at h
  case convert src dst p =>
    split at h
    · rename_i y hy
      exact conv_good I (ev_rep hs hy) h
    · simp at h
  case build t parts =>
    obtain ⟨r,h1,h2⟩ := build_run (P := P) hs h
    exact Good.of I h1 h2
  case buildSlice t len parts => exact buildSlice_good I hs h
  case slice t p lo hi mx =>
    split at h
    · rename_i y l hh m hy hl hhi hm
      obtain ⟨r,h1,h2⟩ := slice_run (P := P) (ev_rep hs hy) (evO_rep hs hl) (evO_rep hs hhi) (evO_rep hs hm) h
      exact Good.of I h1 h2
    · simp at h
  case fieldAddr t p f =>
    split at h
    · rename_i y hy
      obtain ⟨r,h1,h2⟩ := fieldAddr_run (P := P) I (ev_rep hs hy) h
      exact Good.of I h1 h2
    · simp at h
  case field t p f =>
    split at h
    · rename_i y hy
      obtain ⟨r,h1,h2⟩ := field_run (P := P) (ev_rep hs hy) h
      exact Good.of I h1 h2
    · simp at h
  case indexAddr t p q =>
    split at h
    · rename_i y z hy hz
      obtain ⟨r,h1,h2⟩ := indexAddr_run (P := P) (ev_rep hs hy) (ev_rep hs hz) h
      exact Good.of I h1 h2
    · simp at h
  case index t p q =>
    split at h
    · rename_i y z hy hz
      obtain ⟨r,h1,h2⟩ := index_run (P := P) (ev_rep hs hy) (ev_rep hs hz) h
      exact Good.of I h1 h2
    · simp at h
  case extract p k =>
    split at h
    · rename_i vs hy
      obtain ⟨r,h1,h2⟩ := extract_run (P := P) (ev_rep hs hy) h
      exact Good.of I h1 h2
    · simp at h
  case makeFunc fn first captured =>
    split at h
    · rename_i h0
      simp only [Option.map_eq_some_iff] at h
      obtain ⟨vs,hvs,rfl⟩ := h
      have hl := evL_rep hs hvs
      have hf : first = #[] := Array.eq_empty_of_size_eq_zero h0
      subst hf
      refine Good.of I (v := .func fn #[] (captured.map a.eval)) (by simp [Instr.makeFunc]) (LR.func ?_ fn)
      simpa using hl
    · simp at h
end
end Go.PV
