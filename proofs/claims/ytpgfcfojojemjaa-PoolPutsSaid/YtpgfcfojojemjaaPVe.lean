/- Operators on plain values. -/
import Derived.Test.YtpgfcfojojemjaaPVd
import Derived.Laws.Strings
import Derived.Laws.StructEq
namespace Go.PV
set_option linter.unusedVariables false

def intOp (op : BinOp) (k : IntKind) (a b : Int) : Option V :=
  match op with
  | .add => some (.int k (k.wrap (a + b)))
  | .sub => some (.int k (k.wrap (a - b)))
  | .mul => some (.int k (k.wrap (a * b)))
  | .quo => if b = 0 then none else some (.int k (k.wrap (a.tdiv b)))
  | .rem => if b = 0 then none else some (.int k (a.tmod b))
  | .and => some (.int k (k.wrap (BitVec.ofInt k.bits a &&& BitVec.ofInt k.bits b).toNat))
  | .or => some (.int k (k.wrap (BitVec.ofInt k.bits a ||| BitVec.ofInt k.bits b).toNat))
  | .xor => some (.int k (k.wrap (BitVec.ofInt k.bits a ^^^ BitVec.ofInt k.bits b).toNat))
  | .andNot => some (.int k (k.wrap (BitVec.ofInt k.bits a &&& ~~~ BitVec.ofInt k.bits b).toNat))
  | .eql => some (.bool (a == b))
  | .neq => some (.bool (a != b))
  | .lss => some (.bool (decide (a < b)))
  | .leq => some (.bool (decide (a ≤ b)))
  | .gtr => some (.bool (decide (a > b)))
  | .geq => some (.bool (decide (a ≥ b)))
  | _ => none
def shiftOp (op : BinOp) (k : IntKind) (a b : Int) : Option V :=
  if b < 0 then none else
  match op with
  | .shl => some (.int k (k.wrap (a * 2 ^ (min b.toNat k.bits))))
  | .shr => some (.int k (a.fdiv (2 ^ (min b.toNat k.bits))))
  | _ => none
/-- the longest text that a sum may make -/
def maxStr : Nat := 2 ^ 62
def strOp (op : BinOp) (a b : List UInt8) : Option V :=
  match op with
  | .add => if a.length + b.length ≤ maxStr then some (.str (a ++ b)) else none
  | .eql => some (.bool (a == b))
  | .neq => some (.bool (!(a == b)))
  | .lss => some (.bool (Op.bytesLess a b))
  | .leq => some (.bool (Op.bytesLess a b || a == b))
  | .gtr => some (.bool (!(Op.bytesLess a b || a == b)))
  | .geq => some (.bool (!(Op.bytesLess a b)))
  | _ => none

/-- two cells of a kind, held against each other -/
def cellEq : TD → V → V → Option Bool
  | .bool, .bool a, .bool b => some (a == b)
  | .int _, .int k a, .int k' b => if k = k' then some (a == b) else none
  | .str, .str a, .str b => some (a == b)
  | _,_,_ => none
def cellsEq : List TD → List V → List V → Option Bool
  | [], [], [] => some true
  | t :: ts,x :: xs,y :: ys => match cellEq t x y,cellsEq ts xs ys with
    | some a,some b => some (a && b)
    | _,_ => none
  | _,_,_ => none

/-- the cells' kinds of a type whose values are held against each other cell by cell -/
def flatK (P : Program) : Nat → TypeId → Option (List TD)
  | 0,_ => none
  | d + 1,t =>
    match P.underlying t,P.info? t with
    | some .bool,some i => if i.size = 1 then some [.bool] else none
    | some (.int k),some i => if i.size = 1 then some [.int k] else none
    | some .string,some i => if i.size = 1 then some [.str] else none
    | some (.struct fs),some i => if P.stoodInHeld t then none else
        match fields d fs.toList 0 with
        | some ks => if ks.length = i.size then some ks else none
        | none => none
    | some (.array n e),some i => match flatK P d e with
        | some ks => if i.size = n * ks.length then some ((List.range n).flatMap fun _ => ks) else none
        | none => none
    | _,_ => none
where
  fields (d : Nat) : List Field → Nat → Option (List TD)
  | [],_ => some []
  | f :: fs,o => if f.name = "_" ∨ f.offset ≠ o then none else
    match flatK P d f.type with
    | some ks => match fields d fs (o + ks.length) with
      | some r => some (ks ++ r)
      | none => none
    | none => none
def eqK (P : Program) (t : TypeId) : Option (List TD) := if P.eqGuardType P.depth t then none else flatK P 64 t

def eqlV (P : Program) (t : TypeId) (x y : V) : Option Bool :=
  match ti P t with
  | some i =>
    match i.d,x,y with
    | .bool, .bool a, .bool b => some (a == b)
    | .ptr _, .nilp, .nilp => some true
    | .ptr _, .nilp, .ptr _ _ | .ptr _, .ptr _ _, .nilp | .ptr _, .nilp, .rptr _ | .ptr _, .rptr _, .nilp => some false
    | .slice _, .nils, .nils => some true
    | .slice _, .nils, .slice _ _ _ _ | .slice _, .slice _ _ _ _, .nils => some false
    | .func, .nilf, .nilf => some true
    | .func, .nilf, .func _ _ | .func, .func _ _, .nilf => some false
    | .struct _, .agg a, .agg b | .arr _ _, .agg a, .agg b => match eqK P t with
      | some ks => cellsEq ks a b
      | none => none
    | _,_,_ => none
  | none => none

def binV (P : Program) (op : BinOp) (t : TypeId) (x y : V) : Option V :=
  match x,y with
  | .int k a, .int k' b => if op = .shl ∨ op = .shr then shiftOp op k a b else if k = k' then intOp op k a b else none
  | .str a, .str b => strOp op a b
  | x,y => match op with
    | .eql => (eqlV P t x y).map .bool
    | .neq => (eqlV P t x y).map fun b => .bool !b
    | _ => none

def unV (op : UnOp) (x : V) : Option V :=
  match op,x with
  | .neg, .int k n => some (.int k (k.wrap (0 - n)))
  | .xor, .int k n => intOp .xor k (if k.signed then -1 else k.max) n
  | .not, .bool b => some (.bool !b)
  | _,_ => none

section
variable {P : Program} {w : World} {G : Gh}

theorem intOp_run {op : BinOp} {k : IntKind} {a b : Int} {x : V} (h : intOp op k a b = some x) (ho : op ≠ .shl ∧ op ≠ .shr) :
    ∃ v,(binOp op 0 (.int k a) (.int k b)).run P w = .ok v w ∧ Rep w G v x := by
  cases op <;> simp only [intOp] at h <;> first
    | (exact absurd rfl ho.1)
    | (exact absurd rfl ho.2)
    | (obtain rfl := Option.some.inj h; refine ⟨_, ?_, .int _ _⟩; simp [binOp,Op.intArith,Op.intBits]; done)
    | (obtain rfl := Option.some.inj h; refine ⟨_, ?_, .bool _⟩; simp [binOp,Op.intCmp]; done)
    | (split at h
       · simp at h
       · rename_i hb; obtain rfl := Option.some.inj h; refine ⟨_, ?_, .int _ _⟩; simp [binOp,Op.intDiv,hb]; done)

theorem binOp_type (op : BinOp) (t u : TypeId) (k k' : IntKind) (a b : Int) : binOp op t (.int k a) (.int k' b) = binOp op u (.int k a) (.int k' b) := by
  cases op <;> rfl
theorem binOp_type_str (op : BinOp) (t u : TypeId) (a b : ByteArray) : binOp op t (.string a) (.string b) = binOp op u (.string a) (.string b) := by
  cases op <;> rfl

theorem shiftOp_run {op : BinOp} {k k' : IntKind} {a b : Int} {x : V} (h : shiftOp op k a b = some x) :
    ∃ v,(binOp op 0 (.int k a) (.int k' b)).run P w = .ok v w ∧ Rep w G v x := by
  unfold shiftOp at h
  split at h
  · simp at h
  · rename_i hb
    cases op <;> simp at h <;> subst h <;> (refine ⟨_, ?_, .int _ _⟩; simp [binOp,Op.shift,hb])

theorem strOp_run {op : BinOp} {a b : ByteArray} {x : V} (h : strOp op a.data.toList b.data.toList = some x) :
    ∃ v,(binOp op 0 (.string a) (.string b)).run P w = .ok v w ∧ Rep w G v x := by
  cases op <;> simp only [strOp] at h <;> first
    | (simp at h; done)
    | (obtain rfl := Option.some.inj h; refine ⟨_, ?_, .bool _⟩; simp only [binOp,Op.stringOp,ByteArray.toList_eq,Sem.run_pure]; done)
    | skip
  split at h
  · rename_i hl
    obtain rfl := Option.some.inj h
    refine ⟨.string (a ++ b), ?_, ?_⟩
    · have hs : ¬ (((a.size + b.size : Nat) : Int) > IntKind.i64.max) := by
        have e1 : a.data.toList.length = a.size := Array.length_toList
        have e2 : b.data.toList.length = b.size := Array.length_toList
        rw [e1,e2] at hl
        have e3 : IntKind.i64.max = 9223372036854775807 := rfl
        rw [e3]
        unfold maxStr at hl
        omega
      simp only [binOp,Op.stringOp,if_neg hs,Sem.run_pure]
    · have := Rep.str (w := w) (G := G) (a ++ b)
      rwa [show (a ++ b).data.toList = a.data.toList ++ b.data.toList from by simp] at this
  · simp at h

theorem bytes_beq (a b : ByteArray) : (a == b) = (a.data.toList == b.data.toList) := by
  rw [beq_toListBytes,ByteArray.toList_eq,ByteArray.toList_eq]

theorem cellEq_run {k : TD} {x y : V} {a b : Value} (hx : Rep w G a x) (hy : Rep w G b y) {r : Bool} (h : cellEq k x y = some r) {d : Nat} {t : TypeId}
    {u : TypeDesc} (hu : P.underlying t = some u) (hk : tdOf u = k) : (Op.equalIn (d + 1) t a b).run P w = .ok r w := by
  cases k <;> cases x <;> cases y <;> simp only [cellEq] at h <;> first | (simp at h; done) | skip
  · obtain rfl := Option.some.inj h
    cases hx; cases hy
    cases u <;> simp [tdOf] at hk
    simp [Op.equalIn,run_und hu]
  · split at h
    · rename_i hkk; subst hkk
      obtain rfl := Option.some.inj h
      cases hx; cases hy
      cases u <;> simp [tdOf] at hk
      simp [Op.equalIn,run_und hu]
    · simp at h
  · obtain rfl := Option.some.inj h
    cases hx; cases hy
    cases u <;> simp [tdOf] at hk
    simp [Op.equalIn,run_und hu,bytes_beq]

theorem cellsEq_append : ∀ {ks : List TD} {xs ys : List V} {ks' : List TD} {xs' ys' : List V} {r : Bool}, cellsEq (ks ++ ks') (xs ++ xs') (ys ++ ys') = some r → xs.length = ks.length → ys.length = ks.length →
    ∃ r1 r2,cellsEq ks xs ys = some r1 ∧ cellsEq ks' xs' ys' = some r2 ∧ r = (r1 && r2)
  | [], [], [],_,_,_,r,h,_,_ => ⟨true,r,rfl,h,by simp⟩
  | k :: ks,x :: xs,y :: ys,ks',xs',ys',r,h,h1,h2 => by
    simp only [List.cons_append,cellsEq] at h
    split at h
    · rename_i a b ha hb
      obtain ⟨r1,r2,g1,g2,rfl⟩ := cellsEq_append hb (by simpa using h1) (by simpa using h2)
      obtain rfl := Option.some.inj h
      exact ⟨a && r1,r2,by simp [cellsEq,ha,g1],g2,by simp [Bool.and_assoc]⟩
    · simp at h
  | [],_ :: _,_,_,_,_,_,_,h1,_ => by simp at h1
  | [], [],_ :: _,_,_,_,_,_,_,h2 => by simp at h2
  | _ :: _, [],_,_,_,_,_,_,h1,_ => by simp at h1
  | _ :: _,_ :: _, [],_,_,_,_,_,_,h2 => by simp at h2
theorem cellsEq_length : ∀ {ks : List TD} {xs ys : List V} {r : Bool}, cellsEq ks xs ys = some r → xs.length = ks.length ∧ ys.length = ks.length
  | [], [], [],_,_ => ⟨rfl,rfl⟩
  | k :: ks,x :: xs,y :: ys,r,h => by
    simp only [cellsEq] at h
    split at h
    · rename_i a b ha hb
      have := cellsEq_length hb
      simp [this.1,this.2]
    · simp at h
  | [], [],_ :: _,_,h => by simp [cellsEq] at h
  | [],_ :: _, [],_,h => by simp [cellsEq] at h
  | [],_ :: _,_ :: _,_,h => by simp [cellsEq] at h
  | _ :: _, [], [],_,h => by simp [cellsEq] at h
  | _ :: _, [],_ :: _,_,h => by simp [cellsEq] at h
  | _ :: _,_ :: _, [],_,h => by simp [cellsEq] at h

/-- cells of an aggregate, represented from a place on -/
def cellsAt (w : World) (G : Gh) (xs : Array Value) (o : Nat) (cs : List V) : Prop := ∀ k y, cs[k]? = some y → ∃ v, xs[o + k]? = some v ∧ Rep w G v y

theorem flatK_one {d : Nat} {t : TypeId} {ks : List TD} {u : TypeDesc} (hu : P.underlying t = some u) (h : flatK P d t = some ks) (ha : (tdOf u).agg = false) : ks = [tdOf u] := by
  cases d with
  | zero => simp [flatK] at h
  | succ d =>
    unfold flatK at h
    rw [hu] at h
    cases u <;> cases hi : P.info? t <;> simp [hi] at h <;> first
      | (obtain ⟨_,rfl⟩ := h; rfl)
      | (simp [tdOf,TD.agg] at ha)

theorem extract_get (xs : Array Value) (o n k : Nat) (hk : k < n) : (xs.extract o (o + n))[k]? = xs[o + k]? := by
  rw [Array.getElem?_extract]
  split
  · rfl
  · rw [Array.getElem?_eq_none (by omega)]

theorem cellsAt.extract {xs : Array Value} {o : Nat} {cs : List V} (h : cellsAt w G xs o cs) : cellsAt w G (xs.extract o (o + cs.length)) 0 cs := by
  intro k y hk
  obtain ⟨v,hv,hr⟩ := h k y hk
  exact ⟨v,by rw [Nat.zero_add,extract_get _ _ _ _ (List.getElem?_eq_some_iff.1 hk).1]; exact hv,hr⟩
theorem cellsAt.left {xs : Array Value} {o : Nat} {cs ds : List V} (h : cellsAt w G xs o (cs ++ ds)) : cellsAt w G xs o cs := fun k y hk =>
  h k y (by rw [List.getElem?_append_left (List.getElem?_eq_some_iff.1 hk).1]; exact hk)
theorem cellsAt.right {xs : Array Value} {o : Nat} {cs ds : List V} (h : cellsAt w G xs o (cs ++ ds)) : cellsAt w G xs (o + cs.length) ds := fun k y hk => by
  obtain ⟨v,hv,hr⟩ := h (cs.length + k) y (by rw [List.getElem?_append_right (by omega)]; simpa using hk)
  exact ⟨v,by rw [Nat.add_assoc]; exact hv,hr⟩

theorem run_part_agg {t : TypeId} {info : TypeInfo} {u : TypeDesc} (hi : P.info? t = some info) (hu : P.underlying t = some u) (ha : (tdOf u).agg = true) (xs : Array Value) (o : Nat) :
    (part t xs o).run P w = .ok (.agg (xs.extract o (o + info.size))) w := by
  unfold part
  simp [run_agg hu,ha,run_size hi]
theorem run_part_cell {t : TypeId} {u : TypeDesc} (hu : P.underlying t = some u) (ha : (tdOf u).agg = false) {xs : Array Value} {o : Nat} {v : Value} (hv : xs[o]? = some v) :
    (part t xs o).run P w = .ok v w := by
  unfold part
  simp [run_agg hu,ha,hv]

/-- both parts taken, and held against each other -/
def eqPart (D : Nat) (t : TypeId) (xs ys : Array Value) (o o' : Nat) : Sem Bool := do
  let a ← part t xs o
  let b ← part t ys o'
  Op.equalIn D t a b

theorem eqFields_eq (D : Nat) (xs ys : Array Value) (f : Field) (fs : List Field) (h : f.name ≠ "_") :
    (Op.eqFields D xs ys (f :: fs)).run P w = ((eqPart D f.type xs ys f.offset f.offset).run P w).andThen fun r w' => if r then (Op.eqFields D xs ys fs).run P w' else .ok false w' := by
  simp only [Op.eqFields,eqPart,if_pos h,Sem.run_bind]
  generalize (part f.type xs f.offset).run P w = r1
  cases r1 with
  | halt x w1 => rfl
  | ok a w1 =>
    simp only [Result.andThen_ok]
    generalize (part f.type ys f.offset).run P w1 = r2
    cases r2 with
    | halt x w2 => rfl
    | ok b w2 =>
      simp only [Result.andThen_ok]
      generalize (Op.equalIn D f.type a b).run P w2 = r3
      cases r3 with
      | halt x w3 => rfl
      | ok r w3 => cases r <;> simp

theorem len_rep (n : Nat) (ks : List TD) : ((List.range n).flatMap fun _ => ks).length = n * ks.length := by
  induction n with
  | zero => simp
  | succ n ih => rw [List.range_succ,List.flatMap_append,List.length_append,ih,Nat.succ_mul]; simp

theorem forIn_eq {D : Nat} {e : TypeId} {xs ys : Array Value} {n : Nat} : ∀ (is : List Nat), 
    ((forIn is ((none,()) : Option Bool × Unit) (fun i _ => do
          let a ← part e xs (i * n)
          let b ← part e ys (i * n)
          let c ← Op.equalIn D e a b
          if (!c) = true then pure (ForInStep.done (some false,())) else pure (ForInStep.yield (none,()))) : Sem (Option Bool × Unit)).run P w).andThen
        (fun a w' => (match a.fst with
          | some r => pure r
          | none => pure true : Sem Bool).run P w') =
    (is.foldr (fun i (k : World → Result Bool) w' => ((eqPart D e xs ys (i * n) (i * n)).run P w').andThen fun r w'' => if r then k w'' else .ok false w'') (fun w' => .ok true w')) w := by
  intro is
  induction is generalizing w with
  | nil => simp
  | cons i is ih =>
    simp only [List.forIn_cons,List.foldr_cons,eqPart,Sem.run_bind]
    generalize (part e xs (i * n)).run P w = r1
    cases r1 with
    | halt x w1 => rfl
    | ok a w1 =>
      simp only [Result.andThen_ok]
      generalize (part e ys (i * n)).run P w1 = r2
      cases r2 with
      | halt x w2 => rfl
      | ok b w2 =>
        simp only [Result.andThen_ok]
        generalize (Op.equalIn D e a b).run P w2 = r3
        cases r3 with
        | halt x w3 => rfl
        | ok r w3 =>
          cases r
          · simp
          · have := ih (w := w3)
            simp only [Sem.run_bind,eqPart] at this
            simpa using this

theorem run_equalIn_arr (D : Nat) (t e : TypeId) (n : Nat) (ie : TypeInfo) (xs ys : Array Value) (ht : P.underlying t = some (.array n e)) (he : P.info? e = some ie) :
    (Op.equalIn (D + 1) t (.agg xs) (.agg ys)).run P w =
    ((List.range n).foldr (fun i (k : World → Result Bool) w' => ((eqPart D e xs ys (i * ie.size) (i * ie.size)).run P w').andThen fun r w'' => if r then k w'' else .ok false w'') (fun w' => .ok true w')) w := by
  rw [← forIn_eq]
  simp only [Op.equalIn,Sem.run_bind,run_und ht,Result.andThen_ok,run_size he]
  simp [List.range_eq_range', -Bool.not_eq_eq_eq_not]
  congr 1
  funext a w'; cases a.fst <;> rfl

theorem flat_run : ∀ (d D : Nat) (t : TypeId) (ks : List TD) (xs ys : Array Value) (o o' : Nat) (cx cy : List V) (r : Bool), d ≤ D → flatK P d t = some ks →
    cellsAt w G xs o cx → cellsAt w G ys o' cy → cellsEq ks cx cy = some r → (eqPart D t xs ys o o').run P w = .ok r w
  | 0,_,_,_,_,_,_,_,_,_,_,_,hf,_,_,_ => by simp [flatK] at hf
  | d + 1,0,_,_,_,_,_,_,_,_,_,h,_,_,_,_ => by omega
  | d + 1,D + 1,t,ks,xs,ys,o,o',cx,cy,r,hD,hf,hx,hy,hc => by
    have hlen := cellsEq_length hc
    cases hu : P.underlying t with
    | none => simp [flatK,hu] at hf
    | some u =>
      cases hi : P.info? t with
      | none => cases u <;> simp [flatK,hu,hi] at hf
      | some info =>
        by_cases ha : (tdOf u).agg = true
        · cases u with
          | struct fs =>
            have hf0 := hf
            simp only [flatK,hu,hi] at hf
            split at hf
            · simp at hf
            · rename_i hst
              split at hf
              · rename_i ks' hfs
                split at hf
                · rename_i hsz
                  obtain rfl := Option.some.inj hf
                  simp only [eqPart,Sem.run_bind,run_part_agg hi hu ha,Result.andThen_ok]
                  have hfo : P.fieldsOf t = fs := by simp [Program.fieldsOf,hu]
                  rw [run_equalIn_struct w D t _ _ (by rw [hfo]; exact hu) (by simpa using hst),hfo]
                  have ex := hx.extract
                  have ey := hy.extract
                  rw [hlen.1,hsz] at ex
                  rw [hlen.2,hsz] at ey
                  generalize xs.extract o (o + info.size) = X at ex ⊢
                  generalize ys.extract o' (o' + info.size) = Y at ey ⊢
                  have go : ∀ (fl : List Field) (p : Nat) (kl : List TD) (ax ay : List V) (r : Bool),flatK.fields P d fl p = some kl → cellsAt w G X p ax → cellsAt w G Y p ay → cellsEq kl ax ay = some r →
                      (Op.eqFields D X Y fl).run P w = .ok r w := by
                    intro fl
                    induction fl with
                    | nil =>
                      intro p kl ax ay r h1 h2 h3 h4
                      simp only [flatK.fields] at h1
                      obtain rfl := Option.some.inj h1
                      have := cellsEq_length h4
                      have e1 : ax = [] := List.eq_nil_of_length_eq_zero this.1
                      have e2 : ay = [] := List.eq_nil_of_length_eq_zero this.2
                      subst e1 e2
                      obtain rfl : true = r := by simpa [cellsEq] using h4
                      rfl
                    | cons f fl ih =>
                      intro p kl ax ay r h1 h2 h3 h4
                      simp only [flatK.fields] at h1
                      split at h1
                      · simp at h1
                      · rename_i hn
                        have hn' : f.name ≠ "_" ∧ f.offset = p := ⟨fun e => hn (.inl e),Classical.byContradiction fun e => hn (.inr e)⟩
                        split at h1
                        · rename_i k1 hk1
                          split at h1
                          · rename_i k2 hk2
                            obtain rfl := Option.some.inj h1
                            have hl := cellsEq_length h4
                            rw [List.length_append] at hl
                            have sx : ax = ax.take k1.length ++ ax.drop k1.length := (List.take_append_drop _ _).symm
                            have sy : ay = ay.take k1.length ++ ay.drop k1.length := (List.take_append_drop _ _).symm
                            have lx : (ax.take k1.length).length = k1.length := by simp; omega
                            have ly : (ay.take k1.length).length = k1.length := by simp; omega
                            rw [sx] at h2 h4
                            rw [sy] at h3 h4
                            obtain ⟨r1,r2,g1,g2,rfl⟩ := cellsEq_append h4 lx ly
                            rw [eqFields_eq D X Y f fl hn'.1,hn'.2]
                            rw [flat_run d D f.type k1 X Y p p _ _ r1 (by omega) hk1 h2.left h3.left g1]
                            simp only [Result.andThen_ok]
                            have q2 := h2.right; rw [lx] at q2
                            have q3 := h3.right; rw [ly] at q3
                            rw [ih (p + k1.length) k2 _ _ r2 hk2 q2 q3 g2]
                            cases r1 <;> simp
                          · simp at h1
                        · simp at h1
                  exact go fs.toList 0 ks' cx cy r hfs ex ey hc
                · simp at hf
              · simp at hf
          | array n e =>
            simp only [flatK,hu,hi] at hf
            split at hf
            · rename_i k1 hk1
              split at hf
              · rename_i hsz
                obtain rfl := Option.some.inj hf
                simp only [eqPart,Sem.run_bind,run_part_agg hi hu ha,Result.andThen_ok]
                obtain ⟨ie,he⟩ : ∃ ie,P.info? e = some ie := by
                  cases h : P.info? e with
                  | none => cases d <;> simp [flatK,h] at hk1
                  | some ie => exact ⟨ie,rfl⟩
                have hes : ie.size = k1.length := by
                  cases d with
                  | zero => simp [flatK] at hk1
                  | succ d =>
                    cases hue : P.underlying e with
                    | none => simp [flatK,hue] at hk1
                    | some ue =>
                      cases ue <;> simp only [flatK,hue,he] at hk1 <;> first
                        | (simp at hk1; done)
                        | (split at hk1
                           · rename_i h1; obtain rfl := Option.some.inj hk1; simp [h1]
                           · simp at hk1)
                        | skip
                      · split at hk1
                        · rename_i hh; split at hk1
                          · rename_i h1; obtain rfl := Option.some.inj hk1
                            rw [len_rep]; exact h1
                          · simp at hk1
                        · simp at hk1
                      · split at hk1
                        · simp at hk1
                        · split at hk1
                          · split at hk1
                            · rename_i h1; obtain rfl := Option.some.inj hk1; exact h1.symm
                            · simp at hk1
                          · simp at hk1
                rw [run_equalIn_arr D t e n ie _ _ hu he]
                have ex := hx.extract
                have ey := hy.extract
                have hkl : ((List.range n).flatMap fun _ => k1).length = info.size := by rw [hsz,len_rep]
                rw [hlen.1,hkl] at ex
                rw [hlen.2,hkl] at ey
                generalize xs.extract o (o + info.size) = X at ex ⊢
                generalize ys.extract o' (o' + info.size) = Y at ey ⊢
                have go : ∀ (m s : Nat) (ax ay : List V) (r : Bool),cellsAt w G X (s * k1.length) ax → cellsAt w G Y (s * k1.length) ay → cellsEq ((List.range' s m).flatMap fun _ => k1) ax ay = some r →
                    ((List.range' s m).foldr (fun i (k : World → Result Bool) w' => ((eqPart D e X Y (i * ie.size) (i * ie.size)).run P w').andThen fun r w'' => if r then k w'' else .ok false w'') (fun w' => .ok true w')) w = .ok r w := by
                  intro m
                  induction m with
                  | zero =>
                    intro s ax ay r h2 h3 h4
                    have := cellsEq_length h4
                    have e1 : ax = [] := List.eq_nil_of_length_eq_zero this.1
                    have e2 : ay = [] := List.eq_nil_of_length_eq_zero this.2
                    subst e1 e2
                    obtain rfl : true = r := by simpa [cellsEq] using h4
                    rfl
                  | succ m ih =>
                    intro s ax ay r h2 h3 h4
                    rw [List.range'_succ,List.flatMap_cons] at h4
                    have hl := cellsEq_length h4
                    rw [List.length_append] at hl
                    have sx : ax = ax.take k1.length ++ ax.drop k1.length := (List.take_append_drop _ _).symm
                    have sy : ay = ay.take k1.length ++ ay.drop k1.length := (List.take_append_drop _ _).symm
                    have lx : (ax.take k1.length).length = k1.length := by simp; omega
                    have ly : (ay.take k1.length).length = k1.length := by simp; omega
                    rw [sx] at h2 h4
                    rw [sy] at h3 h4
                    obtain ⟨r1,r2,g1,g2,rfl⟩ := cellsEq_append h4 lx ly
                    rw [List.range'_succ,List.foldr_cons,hes]
                    rw [flat_run d D e k1 X Y _ _ _ _ r1 (by omega) hk1 h2.left h3.left g1]
                    simp only [Result.andThen_ok]
                    have q2 := h2.right; rw [lx,← Nat.succ_mul] at q2
                    have q3 := h3.right; rw [ly,← Nat.succ_mul] at q3
                    have := ih (s + 1) _ _ r2 q2 q3 g2
                    rw [hes] at this
                    rw [this]
                    cases r1 <;> simp
                rw [List.range_eq_range'] at hc ⊢
                exact go n 0 cx cy r (by simpa using ex) (by simpa using ey) hc
              · simp at hf
            · simp at hf
          | _ => simp [tdOf,TD.agg] at ha
        · have ha' : (tdOf u).agg = false := by simpa using ha
          obtain rfl := flatK_one hu hf ha'
          obtain ⟨x,rfl⟩ : ∃ x,cx = [x] := by
            match cx,hlen.1 with
            | [x],_ => exact ⟨x,rfl⟩
          obtain ⟨y,rfl⟩ : ∃ y,cy = [y] := by
            match cy,hlen.2 with
            | [y],_ => exact ⟨y,rfl⟩
          obtain ⟨a,hxa,hra⟩ := hx 0 x rfl
          obtain ⟨b,hyb,hrb⟩ := hy 0 y rfl
          rw [Nat.add_zero] at hxa hyb
          simp only [eqPart,Sem.run_bind,run_part_cell hu ha' hxa,run_part_cell hu ha' hyb,Result.andThen_ok]
          simp only [cellsEq] at hc
          split at hc
          · rename_i p q hp hq
            obtain rfl := Option.some.inj hc
            obtain rfl := Option.some.inj hq
            rw [Bool.and_true]
            exact cellEq_run hra hrb hp hu rfl
          · simp at hc
end
end Go.PV
