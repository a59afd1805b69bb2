/- Abstract values, and the relation between a model value and an abstract one. -/
import Derived.Orders
import Derived.Below
import Derived.Laws.IdiomCopy
namespace Go.PV

/-- A value without memory: slices bear their elements, structs their cells; 'ptr' leads into a small abstract heap, 'rptr' to cells that never change. -/
inductive V where
  | bool (b : Bool)
  | int (k : IntKind) (n : Int)
  | str (s : List UInt8)
  | nilp
  | ptr (b off : Nat)
  | rptr (cs : List V)
  | nils
  | slice (sz : Nat) (l : List V) (ex : Bool) (tok : Option Nat)
  | func (fn : Fn) (caps : List V)
  | nilf
  | agg (cs : List V)
  | tup (vs : List V)
  | dead

instance : Inhabited V := ⟨.dead⟩

def V.cells : V → List V
  | .agg cs => cs
  | v => [v]
/-- the value of one cell? -/
def V.isCell : V → Bool
  | .agg _ | .tup _ | .dead => false
  | _ => true
/-- a cell's value that leads into no abstract heap and bears no token -/
def V.cleanC : V → Bool
  | .ptr _ _ | .agg _ | .tup _ | .dead => false
  | .slice _ _ _ tok => tok.isNone
  | .func _ caps => caps.isEmpty
  | _ => true
def V.clean (x : V) : Bool := x.cells.all V.cleanC
def flat (l : List V) : List V := l.flatMap V.cells

theorem flat_nil : flat [] = [] := rfl
theorem flat_append (l m : List V) : flat (l ++ m) = flat l ++ flat m := by simp [flat]
theorem flat_cons (x : V) (l : List V) : flat (x :: l) = x.cells ++ flat l := by simp [flat]
theorem flat_length {sz : Nat} : ∀ {l : List V}, (∀ x ∈ l, x.cells.length = sz) → (flat l).length = l.length * sz
  | [],_ => by simp [flat]
  | x :: l,h => by
    rw [flat_cons,List.length_append,h x (by simp),flat_length (fun y hy => h y (by simp [hy])),List.length_cons,Nat.add_mul]
    omega
theorem flat_get {sz : Nat} : ∀ {l : List V}, (∀ x ∈ l, x.cells.length = sz) → ∀ {i j : Nat} {x y : V}, l[i]? = some x → x.cells[j]? = some y → (flat l)[i * sz + j]? = some y
  | [],_,i,j,x,y,h,_ => by simp at h
  | z :: l,hs,0,j,x,y,h,hy => by
    obtain rfl : z = x := by simpa using h
    rw [flat_cons,List.getElem?_append_left (by have := (List.getElem?_eq_some_iff.1 hy).1; omega)]
    simpa using hy
  | z :: l,hs,i + 1,j,x,y,h,hy => by
    rw [flat_cons,List.getElem?_append_right (by rw [hs z (by simp),Nat.add_mul]; omega),hs z (by simp)]
    rw [show (i + 1) * sz + j - sz = i * sz + j from by rw [Nat.add_mul]; omega]
    exact flat_get (fun y hy => hs y (by simp [hy])) (by simpa using h) hy
theorem flat_clean {l : List V} (h : ∀ x ∈ l, x.clean = true) : ∀ y ∈ flat l, y.cleanC = true := by
  intro y hy
  obtain ⟨x,hx,hxy⟩ := List.mem_flatMap.1 hy
  have := h x hx
  simp only [V.clean,List.all_eq_true] at this
  exact this y hxy

/-- the spare room behind a slice that somebody owns: the slice's place, length, capacity, cells an element -/
structure Tail where
  blk : Nat
  off : Nat
  len : Nat
  cap : Nat
  sz : Nat
/-- is a cell of the block among the spare ones? -/
def Tail.has (T : Tail) (k : Nat) : Prop := T.off + T.len * T.sz ≤ k ∧ k < T.off + T.cap * T.sz

/-- what is known beside the world: which cells never change again, where the abstract blocks lie, which tails are owned -/
structure Gh where
  S : Nat → Nat → Prop
  nb : Nat
  mu : Nat → Nat
  nx : Nat
  mx : Nat → Nat
  tk : Nat → Nat → Option Tail

inductive Rep (w : World) (G : Gh) : Value → V → Prop
  | bool (b : Bool) : Rep w G (.bool b) (.bool b)
  | int (k : IntKind) (n : Int) : Rep w G (.int k n) (.int k n)
  | str (s : ByteArray) : Rep w G (.string s) (.str s.data.toList)
  | nilp : Rep w G (.pointer none) .nilp
  | ptr (b off : Nat) (h : b < G.nb) : Rep w G (.pointer (some ⟨G.mu b,off,none⟩)) (.ptr b off)
  | rptr (B o : Nat) (cs : List V) (vs : Nat → Value) (hc : ∀ y ∈ cs,y.cleanC = true)
      (hS : ∀ k y,cs[k]? = some y → G.S B (o + k) ∧ w.cell? ⟨B,o + k,none⟩ = some (vs k))
      (hR : ∀ k y,cs[k]? = some y → Rep w G (vs k) y) : Rep w G (.pointer (some ⟨B,o,none⟩)) (.rptr cs)
  | nils : Rep w G (.slice none 0 0) .nils
  | slice (B o sz : Nat) (l : List V) (ex : Bool) (tok : Option Nat) (cap : Nat) (vs : Nat → Value)
      (hcap : l.length ≤ cap) (hex : ex = true → cap = l.length) (hsz : 0 < sz)
      (hel : ∀ x ∈ l,x.cells.length = sz ∧ x.clean = true)
      (hS : ∀ k y,(flat l)[k]? = some y → G.S B (o + k) ∧ w.cell? ⟨B,o + k,none⟩ = some (vs k))
      (hR : ∀ k y,(flat l)[k]? = some y → Rep w G (vs k) y)
      (ht : ∀ id,tok = some id → id < G.nx ∧ l.length ≤ G.mx id ∧ ∀ T,G.tk id l.length = some T → T = ⟨B,o,l.length,cap,sz⟩)
      (sp : Option Nat) (hsp : sp = none ∨ cap = 0) :
      Rep w G (.slice (some ⟨B,o,sp⟩) l.length cap) (.slice sz l ex tok)
  | func (fn : Fn) (caps : List V) (cvs : Array Value) (hs : cvs.size = caps.length)
      (hR : ∀ k y,caps[k]? = some y → Rep w G (cvs.getD k undef) y) : Rep w G (.func fn #[] cvs) (.func fn caps)
  | nilf : Rep w G .nilFunc .nilf
  | agg (vs : Array Value) (cs : List V) (hs : vs.size = cs.length) (hR : ∀ k y,cs[k]? = some y → Rep w G (vs.getD k undef) y) : Rep w G (.agg vs) (.agg cs)
  | tup (vs : Array Value) (cs : List V) (hs : vs.size = cs.length) (hR : ∀ k y,cs[k]? = some y → Rep w G (vs.getD k undef) y) : Rep w G (.tuple vs) (.tup cs)
  | dead (v : Value) : Rep w G v .dead

/-- from (w, G) to (w', G'): what was represented still is -/
structure Mono (w : World) (G : Gh) (w' : World) (G' : Gh) : Prop where
  S : ∀ b o,G.S b o → G'.S b o ∧ w'.cell? ⟨b,o,none⟩ = w.cell? ⟨b,o,none⟩
  nb : G.nb ≤ G'.nb
  mu : ∀ b,b < G.nb → G'.mu b = G.mu b
  nx : G.nx ≤ G'.nx
  mx : ∀ id,id < G.nx → G.mx id ≤ G'.mx id
  tk : ∀ id n T,id < G.nx → n ≤ G.mx id → G'.tk id n = some T → G.tk id n = some T

theorem Mono.refl (w : World) (G : Gh) : Mono w G w G :=
  ⟨fun _ _ h => ⟨h,rfl⟩,Nat.le_refl _,fun _ _ => rfl,Nat.le_refl _,fun _ _ => Nat.le_refl _,fun _ _ _ _ _ h => h⟩
theorem Mono.trans {w w' w'' : World} {G G' G'' : Gh} (a : Mono w G w' G') (b : Mono w' G' w'' G'') : Mono w G w'' G'' :=
  ⟨fun x o h => ⟨(b.S x o (a.S x o h).1).1,(b.S x o (a.S x o h).1).2.trans (a.S x o h).2⟩,Nat.le_trans a.nb b.nb,
   fun x h => (b.mu x (Nat.lt_of_lt_of_le h a.nb)).trans (a.mu x h),Nat.le_trans a.nx b.nx,
   fun id h => Nat.le_trans (a.mx id h) (b.mx id (Nat.lt_of_lt_of_le h a.nx)),
   fun id n T h hn ht => a.tk id n T h hn (b.tk id n T (Nat.lt_of_lt_of_le h a.nx) (Nat.le_trans hn (a.mx id h)) ht)⟩

theorem Rep.mono {w w' : World} {G G' : Gh} {v : Value} {x : V} (h : Rep w G v x) (m : Mono w G w' G') : Rep w' G' v x := by
  induction h with
  | bool b => exact .bool b
  | int k n => exact .int k n
  | str s => exact .str s
  | nilp => exact .nilp
  | ptr b off h => rw [← m.mu b h]; exact .ptr b off (Nat.lt_of_lt_of_le h m.nb)
  | rptr B o cs vs hc hS hR ih =>
    exact .rptr B o cs vs hc (fun k y hk => ⟨(m.S _ _ (hS k y hk).1).1,(m.S _ _ (hS k y hk).1).2.trans (hS k y hk).2⟩) ih
  | nils => exact .nils
  | slice B o sz l ex tok cap vs hcap hex hsz hel hS hR ht sp hsp ih =>
    refine .slice B o sz l ex tok cap vs hcap hex hsz hel (fun k y hk => ⟨(m.S _ _ (hS k y hk).1).1,(m.S _ _ (hS k y hk).1).2.trans (hS k y hk).2⟩) ih ?_ sp hsp
    intro id hid
    obtain ⟨h1,h2,h3⟩ := ht id hid
    exact ⟨Nat.lt_of_lt_of_le h1 m.nx,Nat.le_trans h2 (m.mx id h1),fun T hT => h3 T (m.tk id _ T h1 h2 hT)⟩
  | func fn caps cvs hs hR ih => exact .func fn caps cvs hs ih
  | nilf => exact .nilf
  | agg vs cs hs hR ih => exact .agg vs cs hs ih
  | tup vs cs hs hR ih => exact .tup vs cs hs ih
  | dead v => exact .dead v

/-- a clean value: the abstract heap and the tokens play no part -/
theorem Rep.clean {w w' : World} {G G' : Gh} (hm : ∀ b o, G.S b o → G'.S b o ∧ w'.cell? ⟨b, o, none⟩ = w.cell? ⟨b, o, none⟩) {v : Value} {x : V} (h : Rep w G v x) :
    x.cleanC = true → Rep w' G' v x := by
  induction h with
  | bool b => exact fun _ => .bool b
  | int k n => exact fun _ => .int k n
  | str s => exact fun _ => .str s
  | nilp => exact fun _ => .nilp
  | ptr b off h => intro h; simp [V.cleanC] at h
  | rptr B o cs vs hc hS hR ih =>
    intro _
    exact .rptr B o cs vs hc (fun k y hk => ⟨(hm _ _ (hS k y hk).1).1,(hm _ _ (hS k y hk).1).2.trans (hS k y hk).2⟩) (fun k y hk => ih k y hk (hc y (List.mem_of_getElem? hk)))
  | nils => exact fun _ => .nils
  | slice B o sz l ex tok cap vs hcap hex hsz hel hS hR ht sp hsp ih =>
    intro hc
    refine .slice B o sz l ex tok cap vs hcap hex hsz hel (fun k y hk => ⟨(hm _ _ (hS k y hk).1).1,(hm _ _ (hS k y hk).1).2.trans (hS k y hk).2⟩)
      (fun k y hk => ih k y hk (flat_clean (fun x hx => (hel x hx).2) y (List.mem_of_getElem? hk))) ?_ sp hsp
    intro id hid
    subst hid
    simp [V.cleanC] at hc
  | func fn caps cvs hs hR ih =>
    intro hc
    obtain rfl : caps = [] := by simpa [V.cleanC] using hc
    exact .func fn [] cvs hs (fun k y hk => by simp at hk)
  | nilf => exact fun _ => .nilf
  | agg vs cs hs hR ih => intro h; simp [V.cleanC] at h
  | tup vs cs hs hR ih => intro h; simp [V.cleanC] at h
  | dead v => intro h; simp [V.cleanC] at h

/-- the cells of a represented value -/
theorem Rep.cells {w : World} {G : Gh} {v : Value} {x : V} (h : Rep w G v x) (hx : x.cells.all V.isCell = true) :
    v.cells.size = x.cells.length ∧ (∀ k y,x.cells[k]? = some y → Rep w G (v.cells.getD k undef) y) := by
  have one : ∀ (v : Value) (x : V),Rep w G v x → v.cells = #[v] → x.cells = [x] → v.cells.size = x.cells.length ∧ (∀ k y,x.cells[k]? = some y → Rep w G (v.cells.getD k undef) y) := by
    intro v x h h1 h2
    rw [h1,h2]
    refine ⟨rfl,fun k y hk => ?_⟩
    cases k with
    | zero => obtain rfl : x = y := by simpa using hk
              simpa using h
    | succ k => simp at hk
  cases h with
  | agg vs cs hs hR => exact ⟨hs,hR⟩
  | tup vs cs hs hR => simp [V.cells,V.isCell] at hx
  | dead v => simp [V.cells,V.isCell] at hx
  | _ => exact one _ _ (by constructor <;> assumption) rfl rfl

theorem Rep.oneCell {w : World} {G : Gh} {v : Value} {x : V} (h : Rep w G v x) (hx : x.isCell = true) : v.oneCell' = true := by
  cases h <;> first | rfl | (simp [V.isCell] at hx; done)
theorem V.clean_isCell {x : V} (h : x.cleanC = true) : x.isCell = true := by
  cases x <;> simp_all [V.cleanC,V.isCell]
end Go.PV
