/- The types of the machine, the servers and the cluster, as rows of cells. -/
import Derived.Test.YtknllghkpjncoaaA7
set_option linter.unusedVariables false
set_option linter.unusedSimpArgs false
set_option maxRecDepth 100000
namespace Go.Proofs
open Go VC

/-- A size that was taken off: below nought, or what it took is small. -/
def SzR (ok : Prop) (r : AV) : Prop := ∃ n : Int, r = I n ∧ -1 ≤ n ∧ n ≤ 1048576 ∧ (0 ≤ n → ok)
theorem SzR.no {ok : Prop} : SzR ok (I (-1)) := ⟨-1, rfl, by omega, by omega, fun h => by omega⟩
theorem SzR.yes {ok : Prop} {n : Int} (h : 0 ≤ n) (h1 : n ≤ 1048576) (h2 : ok) : SzR ok (I n) := ⟨n, rfl, by omega, h1, fun _ => h2⟩
def strc (s : ByteArray) : List Tr := [.sc (.string s)]
def prc (p : Int × Int) : List Tr := [.sc (.int .i64 p.1), .sc (.int .i64 p.2)]
def okStr (b : Nat) (s : ByteArray) : Prop := s.size ≤ b
structure Ad where
  six : Bool
  hi : Int
  lo : Int
abbrev adV (x : Ad) : AV := .agg [Bo x.six, I x.hi, I x.lo]
def adT (x : Ad) : List Tr := [.sc (.bool x.six), .sc (.int .i64 x.hi), .sc (.int .i64 x.lo)]
structure Pf where
  loc : Ad
  bits : Int
abbrev pfV (x : Pf) : AV := .agg [Bo x.loc.six, I x.loc.hi, I x.loc.lo, I x.bits]
def pfT (x : Pf) : List Tr := [.sc (.bool x.loc.six), .sc (.int .i64 x.loc.hi), .sc (.int .i64 x.loc.lo), .sc (.int .i64 x.bits)]
structure Po where
  loc : Pf
  bits : Int
abbrev poV (x : Po) : AV := .agg [Bo x.loc.loc.six, I x.loc.loc.hi, I x.loc.loc.lo, I x.loc.bits, I x.bits]
def poT (x : Po) : List Tr := [.sc (.bool x.loc.loc.six), .sc (.int .i64 x.loc.loc.hi), .sc (.int .i64 x.loc.loc.lo), .sc (.int .i64 x.loc.bits), .sc (.int .i64 x.bits)]
structure Bk where
  loc : Pf
  owner : ByteArray
abbrev bkV (x : Bk) : AV := .agg [Bo x.loc.loc.six, I x.loc.loc.hi, I x.loc.loc.lo, I x.loc.bits, .sc (.string x.owner)]
def bkT (x : Bk) : List Tr := [.sc (.bool x.loc.loc.six), .sc (.int .i64 x.loc.loc.hi), .sc (.int .i64 x.loc.loc.lo), .sc (.int .i64 x.loc.bits), .sc (.string x.owner)]
structure okBk (b : Nat) (x : Bk) : Prop where
  owner : x.owner.size ≤ b
structure Pn where
  pools : List Po
  blocks : List Bk
abbrev pnV (x : Pn) : AV := .agg [.sl 0 (x.pools.map poT), .sl 0 (x.blocks.map bkT)]
def pnT (x : Pn) : List Tr := [.sl (x.pools.map poT), .sl (x.blocks.map bkT)]
structure okPn (b : Nat) (x : Pn) : Prop where
  pools : x.pools.length ≤ b
  blocks : x.blocks.length ≤ b
  blocksA : ∀ e ∈ x.blocks, okBk b e
structure Le where
  loc : Ad
  owner : ByteArray
  token : Int
  til : Int
abbrev leV (x : Le) : AV := .agg [Bo x.loc.six, I x.loc.hi, I x.loc.lo, .sc (.string x.owner), I x.token, I x.til]
def leT (x : Le) : List Tr := [.sc (.bool x.loc.six), .sc (.int .i64 x.loc.hi), .sc (.int .i64 x.loc.lo), .sc (.string x.owner), .sc (.int .i64 x.token), .sc (.int .i64 x.til)]
structure okLe (b : Nat) (x : Le) : Prop where
  owner : x.owner.size ≤ b
structure Bu where
  leases : List Le
  token : Int
  now : Int
abbrev buV (x : Bu) : AV := .agg [.sl 0 (x.leases.map leT), I x.token, I x.now]
def buT (x : Bu) : List Tr := [.sl (x.leases.map leT), .sc (.int .i64 x.token), .sc (.int .i64 x.now)]
structure okBu (b : Nat) (x : Bu) : Prop where
  leases : x.leases.length ≤ b
  leasesA : ∀ e ∈ x.leases, okLe b e
structure Se where
  id : Int
  last : Int
  reply : ByteArray
  til : Int
abbrev seV (x : Se) : AV := .agg [I x.id, I x.last, .sc (.string x.reply), I x.til]
def seT (x : Se) : List Tr := [.sc (.int .i64 x.id), .sc (.int .i64 x.last), .sc (.string x.reply), .sc (.int .i64 x.til)]
structure okSe (b : Nat) (x : Se) : Prop where
  reply : x.reply.size ≤ b
structure De where
  sessions : List Se
  next : Int
abbrev deV (x : De) : AV := .agg [.sl 0 (x.sessions.map seT), I x.next]
def deT (x : De) : List Tr := [.sl (x.sessions.map seT), .sc (.int .i64 x.next)]
structure okDe (b : Nat) (x : De) : Prop where
  sessions : x.sessions.length ≤ b
  sessionsA : ∀ e ∈ x.sessions, okSe b e
structure St where
  plan : Pn
  book : Bu
  desk : De
  count : Int
abbrev stV (x : St) : AV := .agg [.sl 0 (x.plan.pools.map poT), .sl 0 (x.plan.blocks.map bkT), .sl 0 (x.book.leases.map leT), I x.book.token, I x.book.now, .sl 0 (x.desk.sessions.map seT), I x.desk.next, I x.count]
def stT (x : St) : List Tr := [.sl (x.plan.pools.map poT), .sl (x.plan.blocks.map bkT), .sl (x.book.leases.map leT), .sc (.int .i64 x.book.token), .sc (.int .i64 x.book.now), .sl (x.desk.sessions.map seT), .sc (.int .i64 x.desk.next), .sc (.int .i64 x.count)]
structure okSt (b : Nat) (x : St) : Prop where
  plan : okPn b x.plan
  book : okBu b x.book
  desk : okDe b x.desk
structure Fi where
  bytes : List Int
  sure : Int
abbrev fiV (x : Fi) : AV := .agg [byts x.bytes, I x.sure]
def fiT (x : Fi) : List Tr := [.sl (x.bytes.map bc), .sc (.int .i64 x.sure)]
structure okFi (b : Nat) (x : Fi) : Prop where
  bytes : x.bytes.length ≤ b
structure okEnt (b : Nat) (x : Ent) : Prop where
  data : x.data.length ≤ b
def kpT (x : Kp) : List Tr := [.sc (.int .i64 x.term), .sc (.int .i64 x.vote), .sc (.int .i64 x.base), .sc (.int .i64 x.baseTerm), .sl (x.now.map ic), .sl (x.next.map ic), .sl (x.snap.map bc), .sl (x.log.map ec)]
structure okKp (b : Nat) (x : Kp) : Prop where
  now : x.now.length ≤ b
  next : x.next.length ≤ b
  snap : x.snap.length ≤ b
  log : x.log.length ≤ b
  logA : ∀ e ∈ x.log, okEnt b e
def svT (x : Sv) : List Tr := [.sc (.int .i64 x.id), .sc (.int .i64 x.k.term), .sc (.int .i64 x.k.vote), .sc (.int .i64 x.k.base), .sc (.int .i64 x.k.baseTerm), .sl (x.k.now.map ic), .sl (x.k.next.map ic), .sl (x.k.snap.map bc), .sl (x.k.log.map ec), .sc (.int .i64 x.role), .sc (.int .i64 x.lead), .sc (.int .i64 x.commit), .sl (x.votes.map ic), .sc (.int .i64 (x.next 0)), .sc (.int .i64 (x.next 1)), .sc (.int .i64 (x.next 2)), .sc (.int .i64 (x.next 3)), .sc (.int .i64 (x.next 4)), .sc (.int .i64 (x.next 5)), .sc (.int .i64 (x.next 6)), .sc (.int .i64 (x.next 7)), .sc (.int .i64 (x.mat 0)), .sc (.int .i64 (x.mat 1)), .sc (.int .i64 (x.mat 2)), .sc (.int .i64 (x.mat 3)), .sc (.int .i64 (x.mat 4)), .sc (.int .i64 (x.mat 5)), .sc (.int .i64 (x.mat 6)), .sc (.int .i64 (x.mat 7)), .sc (.int .i64 x.elapsed), .sc (.int .i64 x.wait)]
structure okSv (b : Nat) (x : Sv) : Prop where
  k : okKp b x.k
  votes : x.votes.length ≤ b
structure Mg where
  kind : Int
  frm : Int
  dest : Int
  term : Int
  index : Int
  logTerm : Int
  entries : List Ent
  commit : Int
  ok : Bool
  data : List Int
  now : List Int
  next : List Int
abbrev mg (x : Mg) : AV := .agg [I x.kind, I x.frm, I x.dest, I x.term, I x.index, I x.logTerm, .sl 0 (x.entries.map ec), I x.commit, Bo x.ok, byts x.data, ints x.now, ints x.next]
def mgT (x : Mg) : List Tr := [.sc (.int .i64 x.kind), .sc (.int .i64 x.frm), .sc (.int .i64 x.dest), .sc (.int .i64 x.term), .sc (.int .i64 x.index), .sc (.int .i64 x.logTerm), .sl (x.entries.map ec), .sc (.int .i64 x.commit), .sc (.bool x.ok), .sl (x.data.map bc), .sl (x.now.map ic), .sl (x.next.map ic)]
structure okMg (b : Nat) (x : Mg) : Prop where
  entries : x.entries.length ≤ b
  entriesA : ∀ e ∈ x.entries, okEnt b e
  data : x.data.length ≤ b
  now : x.now.length ≤ b
  next : x.next.length ≤ b
structure Rp where
  n : Sv
  s : St
  applied : Int
  f : Fi
  up : Bool
abbrev rpV (x : Rp) : AV := .agg [I x.n.id, I x.n.k.term, I x.n.k.vote, I x.n.k.base, I x.n.k.baseTerm, ints x.n.k.now, ints x.n.k.next, byts x.n.k.snap, .sl 0 (x.n.k.log.map ec), I x.n.role, I x.n.lead, I x.n.commit, ints x.n.votes, I (x.n.next 0), I (x.n.next 1), I (x.n.next 2), I (x.n.next 3), I (x.n.next 4), I (x.n.next 5), I (x.n.next 6), I (x.n.next 7), I (x.n.mat 0), I (x.n.mat 1), I (x.n.mat 2), I (x.n.mat 3), I (x.n.mat 4), I (x.n.mat 5), I (x.n.mat 6), I (x.n.mat 7), I x.n.elapsed, I x.n.wait, .sl 0 (x.s.plan.pools.map poT), .sl 0 (x.s.plan.blocks.map bkT), .sl 0 (x.s.book.leases.map leT), I x.s.book.token, I x.s.book.now, .sl 0 (x.s.desk.sessions.map seT), I x.s.desk.next, I x.s.count, I x.applied, byts x.f.bytes, I x.f.sure, Bo x.up]
def rpT (x : Rp) : List Tr := [.sc (.int .i64 x.n.id), .sc (.int .i64 x.n.k.term), .sc (.int .i64 x.n.k.vote), .sc (.int .i64 x.n.k.base), .sc (.int .i64 x.n.k.baseTerm), .sl (x.n.k.now.map ic), .sl (x.n.k.next.map ic), .sl (x.n.k.snap.map bc), .sl (x.n.k.log.map ec), .sc (.int .i64 x.n.role), .sc (.int .i64 x.n.lead), .sc (.int .i64 x.n.commit), .sl (x.n.votes.map ic), .sc (.int .i64 (x.n.next 0)), .sc (.int .i64 (x.n.next 1)), .sc (.int .i64 (x.n.next 2)), .sc (.int .i64 (x.n.next 3)), .sc (.int .i64 (x.n.next 4)), .sc (.int .i64 (x.n.next 5)), .sc (.int .i64 (x.n.next 6)), .sc (.int .i64 (x.n.next 7)), .sc (.int .i64 (x.n.mat 0)), .sc (.int .i64 (x.n.mat 1)), .sc (.int .i64 (x.n.mat 2)), .sc (.int .i64 (x.n.mat 3)), .sc (.int .i64 (x.n.mat 4)), .sc (.int .i64 (x.n.mat 5)), .sc (.int .i64 (x.n.mat 6)), .sc (.int .i64 (x.n.mat 7)), .sc (.int .i64 x.n.elapsed), .sc (.int .i64 x.n.wait), .sl (x.s.plan.pools.map poT), .sl (x.s.plan.blocks.map bkT), .sl (x.s.book.leases.map leT), .sc (.int .i64 x.s.book.token), .sc (.int .i64 x.s.book.now), .sl (x.s.desk.sessions.map seT), .sc (.int .i64 x.s.desk.next), .sc (.int .i64 x.s.count), .sc (.int .i64 x.applied), .sl (x.f.bytes.map bc), .sc (.int .i64 x.f.sure), .sc (.bool x.up)]
structure okRp (b : Nat) (x : Rp) : Prop where
  n : okSv b x.n
  s : okSt b x.s
  f : okFi b x.f
structure Cl where
  r : List Rp
  now : List Int
  next : List Int
  net : List Mg
  led : List (Int × Int)
  done : List Ent
  said : List ByteArray
  split : Bool
abbrev clV (x : Cl) : AV := .agg [.sl 0 (x.r.map rpT), ints x.now, ints x.next, .sl 0 (x.net.map mgT), .sl 0 (x.led.map prc), .sl 0 (x.done.map ec), .sl 0 (x.said.map strc), Bo x.split]
def clT (x : Cl) : List Tr := [.sl (x.r.map rpT), .sl (x.now.map ic), .sl (x.next.map ic), .sl (x.net.map mgT), .sl (x.led.map prc), .sl (x.done.map ec), .sl (x.said.map strc), .sc (.bool x.split)]
structure okCl (b : Nat) (x : Cl) : Prop where
  r : x.r.length ≤ b
  rA : ∀ e ∈ x.r, okRp b e
  now : x.now.length ≤ b
  next : x.next.length ≤ b
  net : x.net.length ≤ b
  netA : ∀ e ∈ x.net, okMg b e
  led : x.led.length ≤ b
  done : x.done.length ≤ b
  doneA : ∀ e ∈ x.done, okEnt b e
  said : x.said.length ≤ b
  saidA : ∀ e ∈ x.said, okStr b e
theorem okEnt.low {l : List Ent} (h : ∀ e ∈ l, okEnt 1048576 e) : ∀ e ∈ l, e.data.length ≤ 1048576 := fun e he => (h e he).data
theorem okKp.low {k : Kp} (h : okKp 1048576 k) : k.low := ⟨h.now, h.next, h.snap, h.log, okEnt.low h.logA⟩
theorem okSv.low {s : Sv} (h : okSv 1048576 s) : s.low := ⟨h.k.low, h.votes⟩
end Go.Proofs
