/- What a member is and does, in plain Lean: no program, no memory. -/
namespace Go.Proofs.YtjbnmamgfpnccaaGreat

structure Cf where
  vs : List Int
  ls : List Int
structure Ent where
  i : Int
  t : Int
  k : Int
  d : List Int
structure Log where
  i : Int
  t : Int
  cf : Cf
  es : List Ent
structure Snap where
  i : Int
  t : Int
  cf : Cf
  d : List Int
structure Peer where
  m : Int
  next : Int
  mat : Int
  off : Int
structure Msg where
  kind : Int
  frm : Int
  to : Int
  term : Int
  index : Int
  logTerm : Int
  commit : Int
  ok : Bool
  es : List Ent
  off : Int
  data : List Int
  last : Bool
  cf : Cf
structure Core where
  n : Int
  term : Int
  vote : Int
  log : Log
  commit : Int
  role : Int
  lead : Int
  quiet : Int
  yes : List Int
  snap : Snap
  coming : Snap
  peers : Option (List Peer)
  out : List Msg
  dirty : Int
  whole : Bool

def maxNum : Int := 1099511627776
def Cf.nil : Cf := ⟨[], []⟩
def Snap.nil : Snap := ⟨0, 0, .nil, []⟩
def Msg.nil : Msg := ⟨0, 0, 0, 0, 0, 0, 0, false, [], 0, [], false, .nil⟩

/-- Is a number among some? -/
def hasI (xs : List Int) (x : Int) : Bool := xs.contains x
theorem hasI_iff {xs : List Int} {x : Int} : hasI xs x = true ↔ x ∈ xs := by simp [hasI]
def quorum (vs who : List Int) : Bool := decide (vs.length / 2 < (vs.filter fun v => hasI who v).length)
namespace Log
def last (l : Log) : Int × Int := match l.es.getLast? with | none => (l.i, l.t) | some e => (e.i, e.t)
def termAt (l : Log) (x : Int) : Option Int := if x < l.i then none else if x = l.i then some l.t else (l.es[(x - l.i - 1).toNat]?).map (·.t)
def has (l : Log) (x t : Int) : Bool := match l.termAt x with | none => false | some u => u == t
def newer (l : Log) (x t : Int) : Bool := decide (l.last.2 < t) || (t == l.last.2 && decide (l.last.1 ≤ x))
/-- The entries from an index on, at most so many. -/
def entries (l : Log) (frm : Int) (most : Nat) : List Ent := ((l.es.drop (max frm (l.i + 1) - l.i - 1).toNat).take most)
structure Wf (l : Log) : Prop where
  i0 : 0 ≤ l.i
  i1 : l.i ≤ maxNum
  next : ∀ (j : Nat) (e : Ent), l.es[j]? = some e → e.i = l.i + 1 + (j : Int)
  top : l.i + l.es.length ≤ maxNum
  few : l.es.length < 1000000
theorem Wf.last {l : Log} (h : l.Wf) : l.last.1 = l.i + l.es.length := by
  unfold Log.last
  rcases l.es.eq_nil_or_concat with e | ⟨r, x, e⟩
  · rw [e]; simp
  · rw [List.concat_eq_append] at e
    have := h.next r.length x (by rw [e]; simp)
    rw [e]; simp [this]; omega
end Log
end Go.Proofs.YtjbnmamgfpnccaaGreat
