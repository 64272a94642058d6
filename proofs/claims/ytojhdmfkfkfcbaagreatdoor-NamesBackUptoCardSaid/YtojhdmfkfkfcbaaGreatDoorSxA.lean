import Derived.WalkKit
import Derived.RangeFuncCalls
import Derived.OrdersIn
import Derived.LoopNIn
import Derived.TacticsIn
import Derived.WalkLawsBesides
import Derived.Laws.AppendOwn
import Derived.Laws.OwnMore
import Derived.Laws.MakeOwn
import Derived.Laws.NewBlocks
import Derived.Below
import Derived.KernelRfl
import Derived.Laws.StructEq
set_option linter.unusedSimpArgs false
set_option linter.unusedVariables false
namespace Go.Sx
abbrev BY:=ByteArray
theorem Z{α}{a:α}:a=a:=rfl
theorem agM{α}(l : List α)(i : Nat)(a : α) : l.getD i a = l[i]?.getD a:=List.getD_eq_getElem?_getD
theorem agN(a b : Bool) : ((a && b) = true) = (a = true ∧ b = true):=Bool.and_eq_true a b
theorem agO{α}{l : List α}{i : Nat}(h : i < l.length) : l[i]? = some l[i]:=List.getElem?_eq_getElem h
theorem agP{p : Prop}[Decidable p](h : decide p = true) : p:=of_decide_eq_true h
theorem agQ{p : Prop}[Decidable p](h : decide p = false) : ¬p:=of_decide_eq_false h
theorem agR{α}(a b : α) : (some a = some b) = (a = b):=Option.some.injEq a b
theorem agS{α}{a b : α}(h : some a = some b) : a = b:=Option.some.inj h
theorem agT{p : Prop}[Decidable p] : (decide p = true) = p:=decide_eq_true_eq
theorem agU{n m : Nat}(h : Nat.beq n m = true) : n = m:=Nat.eq_of_beq_eq_true h
theorem agV(n : Nat) : ¬n < 0:=Nat.not_lt_zero n
theorem agW{α β}(a : α)(b : β)(c : α)(d : β) : ((a, b) = (c, d)) = (a = c ∧ b = d):=Prod.mk.injEq a b c d
theorem agX{p : Prop}[Decidable p] : decide p = false ↔ ¬p:=decide_eq_false_iff_not
theorem agY(n m : Nat) : ((n + m : Nat) : Int) = n + m:=Int.natCast_add n m
theorem agZ(b : Bool) : ((!b) = true) = (b = false):=Bool.not_eq_true' b
theorem ag0: (false = true) = False:=Bool.false_eq_true
theorem ag1(n : Nat) : (n : Int).toNat = n:=Int.toNat_natCast n
theorem ag2{x y : Bool} : (x || y) = false ↔ x = false ∧ y = false:=Bool.or_eq_false_iff
theorem tR:True:=.intro
abbrev fr(r:Option Nat):Fence:={Fence.wide with round:=r}
theorem aan:fr none=Fence.wide:=rfl
def wq(r:Option Nat)(P:Program)(c:Code)(Q:Exit->Act->World->Prop)(a:Act)(w:World):Prop:=c.wpIn (fr r) 9 P Q a w
def gD(r:Option Nat)(P:Program)(all:Array Oper)(Q:Exit->Act->World->Prop)(l:List Oper)(a:Act)(w:World):Prop:=wpList P all Q l a w∧wpListIn (fr r) 9 P all Q l a w
def wqO(r:Option Nat)(P:Program)(o:Oper)(a:Act)(w:World)(next:Act->World->Prop)(Q:Exit->Act->World->Prop):Prop:=o.wp P a w next Q∧o.wpIn (fr r) 9 P a w next Q
theorem tq{P:Program}{c:Code}{Q:Exit->Act->World->Prop}{a:Act}{w:World}:wq none P c Q a w↔c.wp P Q a w:=wpIn_wide
section
variable{r:Option Nat}{P:Program}{Q:Exit->Act->World->Prop}{a:Act}{w:World}{all:Array Oper}{o:Oper}{rest:List Oper}
theorem tu{c:Code}{Q':Exit->Act->World->Prop}(h:wq r P c Q a w)(hq:∀e a w,Q e a w->Q' e a w):wq r P c Q' a w:=wpIn_mono h hq
theorem aao(h:Q .normal a w):wq r P .skip Q a w:=wpIn_skip h
theorem Xb{l:Nat}(h:Q .normal a w):wq r P (.label l) Q a w:=wpIn_label h
theorem Sc{id:Nat}(h:Q (.exit id) a w):wq r P (.exit id) Q a w:=wpIn_exit h
theorem aap{l:Nat}(h:Q (.goto l) a w):wq r P (.goto l) Q a w:=wpIn_goto h
theorem acC(h:Q .ret a w):wq r P .ret Q a w:=wpIn_ret h
theorem acD{x y:Code}(h:wq r P x (Exit.then (wq r P y Q) Q) a w):wq r P (.seq x y) Q a w:=wpIn_seq h
theorem Xc{id:Nat}{c:Code}(h:wq r P c (Exit.inBlock id Q) a w):wq r P (.block id c) Q a w:=wpIn_block h
theorem IC{c:Operand}{x y:Code}{t:Bool}(hc:a.eval c=.bool t)(ht:t=true->wq r P x Q a w)(hf:t=false->wq r P y Q a w):wq r P (.cond c x y) Q a w:=wpIn_cond_split hc ht hf
theorem Fb{id:Nat}(h:gD r P all Q all.toList a w):wq r P (.region id all false) Q a w:=wpIn_region_list h.2
theorem IE{c:Code}(I:Nat->Act->World->Prop)(n0:Nat)(h0:I n0 a w)(round:∀n a w,I n a w->wq r P c (Exit.then (λa' w'=>∃n',n'<n∧I n' a' w') Q) a w):wq r P (.loop c) Q a w:=by
 have key:∀m n a w,n<m->I n a w->Code.roundsIn (fr r) 9 P c Q m a w:=by
  intro m
  induction m with
  | zero=>intro n a w h;omega
  | succ m ih=>
   intro n a w hn h
   rw[roundsIn_succ]
   refine wpIn_mono (round n a w h) λe a' w' q=>?_
   cases e with
   | normal=>obtain⟨n',h1,h2⟩:=q;exact ih n' a' w' (by omega) h2
   | _=>exact q
 exact wpIn_loop_rounds (n0+1) (key _ n0 a w (by omega) h0)
theorem nL(h:∀K:Act->World->Prop,(∀a w,gD r P all Q rest a w->K a w)->if Region.wanted o (yielded all a.tmps) then wqO r P o a w K Q else K (a.put o.dst undef) w):gD r P all Q (o::rest) a w:=by
 refine⟨wpList_step λK hK=>?_,wpListIn_step λK hK=>?_⟩
 ·have:=h K λa w h=>hK a w h.1
  split
  ·rename_i hw;rw[if_pos hw] at this;exact this.1
  ·rename_i hw;rw[if_neg hw] at this;exact this
 ·have:=h K λa w h=>hK a w h.2
  split
  ·rename_i hw;rw[if_pos hw] at this;exact this.2
  ·rename_i hw;rw[if_neg hw] at this;exact⟨λ_ _=>trivial,this⟩
theorem jW(hg:o.guard=none)(h:∀K:Act->World->Prop,(∀a w,gD r P all Q rest a w->K a w)->wqO r P o a w K Q):gD r P all Q (o::rest) a w:=
 nL λK hK=>by simp only[Region.wanted,hg,if_true];exact h K hK
theorem Pw(h:Q .normal a w):gD r P all Q [] a w:=⟨h,h⟩
theorem LM{f:FuncId}{args:Array Value}{R:Ending->World->Prop}(h:Calls P f args w R)(n:Nat):CallsIn (fr r) n P f args w R:=by
 have h1:CallsIn Fence.wide n P f args w R:=callsIn_wide.2 h
 cases r with
 | none=>exact h1
 | some l=>exact h1.inRound l
def BP:Next->Prop
 | .value _=>True
 | .skip=>True
 | .enter _ _=>True
 | _=>False
theorem Px{c:Call}{nx:Next}{w':World}(ho:o.op=.defer c)(h:(execOp a.eval o).run P w=.ok nx w'):¬BP nx:=by
 unfold execOp at h
 rw[ho] at h
 simp only[Sem.run_bind,Result.andThen] at h
 split at h
 ·have h:Result.ok (Next.defer _) _=Result.ok nx w':=h
  cases h
  exact λhn=>hn
 ·cases h
theorem acE{nx:Next}{w':World}(h:(execOp a.eval o).run P w=.ok nx w')(hn:BP nx):(o.semAt r a.eval).run P w=.ok nx w':=by
 rw[Oper.semAt_eq r a.eval o (λc hc=>Px hc h hn)]
 exact h
theorem Xd{x:Halt}{w':World}(h:(execOp a.eval o).run P w=.halt x w'):(o.semAt r a.eval).run P w=.halt x w':=by
 by_cases hd:∃c,o.op=.defer c
 ·obtain⟨c,hc⟩:=hd
  unfold execOp at h
  rw[hc] at h
  simp only[Sem.run_bind,Result.andThen] at h
  unfold Oper.semAt
  cases r with
  | none=>
   unfold execOp
   rw[hc]
   simp only[Sem.run_bind,Result.andThen]
   exact h
  | some l=>
   rw[hc]
   simp only[Sem.run_bind,Result.andThen]
   split at h
   ·cases h
   ·exact h
 ·rw[Oper.semAt_eq r a.eval o (λc hc=>hd ⟨c,hc⟩)]
  exact h
theorem qZ{next:Act->World->Prop}{nx:Next}{w':World}(h:(execOp a.eval o).run P w=.ok nx w')(hn:BP nx)(k:o.upon P a next Q (.ok nx w')):wqO r P o a w next Q:=by
 refine⟨by unfold Oper.wp;rw[h];exact k,λ_ _=>trivial,?_⟩
 show o.uponIn (fr r) 9 P a next Q ((o.semAt r a.eval).run P w)
 rw[acE h hn]
 cases nx with
 | value v=>exact k
 | skip=>exact k
 | enter f args=>exact⟨λh0=>(by cases h0),LM k _⟩
 | _=>exact hn.elim
theorem Xe{next:Act->World->Prop}{v:Value}{w':World}(h:(execOp a.eval o).run P w=.halt (.panic v) w')(k:Q (.panic [{v,recovered:=false}]) a w'):wqO r P o a w next Q:=by
 refine⟨by unfold Oper.wp;rw[h];exact k,λ_ _=>trivial,?_⟩
 show o.uponIn (fr r) 9 P a next Q ((o.semAt r a.eval).run P w)
 rw[Xd h]
 exact k
theorem aaq{row:String}{args:Array Value}{R:Value->World->Prop}(h:Rows P row args w R)(n:Nat):RowsIn (fr r) n P row args w R:=λc cs _=>
 let ⟨v,w',h1,h2⟩:=h c cs
 ⟨v,w',h1,(by have:=stepsIn_wide.2 h2;cases r<;>exact this)⟩
theorem aar{ops:Array Oper}(hnd:∀(j:Nat) (o:Oper),ops[j]?=some o->∀c,o.op≠.defer c)(hQ:¬LetsOut Q){i:Nat}{K:Act->World->Prop}(h:wpOp P ops Q i K a w):wpOpIn (fr r) 9 P ops Q i K a w:=by
 unfold wpOp at h
 unfold wpOpIn
 split
 ·rename_i ho;rw[ho] at h;exact h
 ·rename_i o ho
  rw[ho] at h
  simp only at h
  split
  ·rename_i hw
   rw[if_pos hw] at h
   rcases h with h | h
   ·refine⟨λ_ _=>trivial,?_⟩
    show o.uponIn (fr r) 9 P a K Q ((o.semAt r a.eval).run P w)
    rw[Oper.semAt_eq r a.eval o (hnd i o ho)]
    unfold Oper.wp at h
    generalize (execOp a.eval o).run P w=z at h ⊢
    cases z with
    | ok x w'=>
     cases x with
     | value v=>exact h
     | skip=>exact h
     | defer d=>exact h
     | enter f args=>exact⟨λh0=>(by cases h0),LM h _⟩
     | row q args=>exact⟨λh0=>(by cases h0),aaq h _⟩
     | _=>exact h.elim
    | halt x w'=>cases x<;>first | exact h | exact h.elim
   ·exact (hQ h.2).elim
  ·rename_i hw
   rw[if_neg hw] at h
   exact⟨λ_ _=>trivial,h⟩
theorem LP{ops:Array Oper}{md:Region.Mode}(hnd:∀(j:Nat) (o:Oper),ops[j]?=some o->∀c,o.op≠.defer c)(hQ:¬LetsOut Q):∀(f:Nat) (l:Array Bool) (a:Act) (w:World),wpAny P md ops Q f l a w->wpAnyIn (fr r) 9 P md ops Q f l a w
 | 0,l,a,w,h=>h
 | f+1,l,a,w,h=>⟨h.1,λi hi=>wpOpIn_mono (λa w h=>LP hnd hQ f _ a w h) (aar hnd hQ (h.2 i hi))⟩
def EM(ops:Array Oper):Bool:=ops.toList.all λo=>match o.op with | .defer _=>false | _=>true
theorem Kn{ops:Array Oper}(h:EM ops=true)(j:Nat)(o:Oper)(ho:ops[j]?=some o)(c:Call):o.op≠.defer c:=λe=>by
 have:=List.all_eq_true.1 h o (List.mem_of_getElem? (by simpa using ho))
 rw[e] at this
 cases this
theorem yN{ops:Array Oper}{id:Nat}(hm:P.follows .mixedOrders=true)(hnd:EM ops=true)(hQ:¬LetsOut Q)
  (h:wpAny P .any ops Q ops.size (Array.replicate ops.size false) a {w with drawn:=w.drawn+1}):wq r P (.region id ops true) Q a w:=
 wpIn_region_any hm (LP (Kn hnd) hQ _ _ _ _ h)
theorem Ui{l:Nat}{f:FuncId}{tmps:Array Value}{assign body:Code}{R:Ending->World->Prop}{n m:Nat}(h:RoundIn Fence.wide n P l f tmps assign body w R):RoundIn Fence.wide m P l f tmps assign body w R:=⟨h.1,λc cs _=>h.2 c cs (room_wide _)⟩
end
inductive D where
 | int (k:IntKind) (n:Int)
 | bool (b:Bool)
 | str (s:BY)
 | sl (sz n:Nat) (f:Nat->List D)
 | nf
 | ni
 | np
 | ifc (t:TypeId) (ns:List (IntKind×Int))
 | mp (l:List BY)
 | nm
instance : Inhabited D := ⟨.bool false⟩
def yB:Nat->List BY->List (Value×Value)
 | _,[]=>[]
 | i,s::r=>(.string s,.int .i64 (i:Int))::yB (i+1) r
inductive RD(F:Nat->Prop)(w:World):D->Value->Prop
 | int (k:IntKind) (n:Int):RD F w (.int k n) (.int k n)
 | bool (b:Bool):RD F w (.bool b) (.bool b)
 | str (s:BY):RD F w (.str s) (.string s)
 | emp (sz:Nat) (f:Nat->List D) (a:Option Addr) (cap:Nat):RD F w (.sl sz 0 f) (.slice a 0 cap)
 | sl (sz n:Nat) (f:Nat->List D) (b o cap:Nat) (cs:Nat->Nat->Value) (hF:F b) (hn:n≤cap)
  (hc:∀i j,i<n->j<sz->w.cell? ⟨b,o+(i*sz+j),none⟩=some (cs i j))
  (hl:∀i,i<n->(f i).length=sz)
  (hr:∀i j d,i<n->(f i)[j]?=some d->RD F w d (cs i j)) :
  RD F w (.sl sz n f) (.slice (some ⟨b,o,none⟩) n cap)
 | nf:RD F w .nf .nilFunc
 | ni:RD F w .ni .nilIface
 | np:RD F w .np (.pointer none)
 | nm:RD F w .nm (.map none)
 | ifc (t:TypeId) (ns:List (IntKind×Int)):RD F w (.ifc t ns) (.iface t (.agg (ns.map λx=>Value.int x.1 x.2).toArray))
 | mp (l:List BY) (b:Nat) (arr:Array MapEntry) (clock:Nat) (hF:F b) (hh:w.heap[b]?=some (.map arr clock)) (hm:arr.toList.map (λe=>(e.key,e.val))=yB 0 l):RD F w (.mp l) (.map (some b))
theorem RD.mono{F F':Nat->Prop}{w w':World}(hF:∀k,F k->F' k)(hw:∀k,F k->w'.heap[k]?=w.heap[k]?){d:D}{v:Value}(h:RD F w d v):RD F' w' d v:=by
 induction h with
 | int k n=>exact .int k n
 | bool b=>exact .bool b
 | str s=>exact .str s
 | emp sz f a cap=>exact .emp sz f a cap
 | nf=>exact .nf
 | ni=>exact .ni
 | np=>exact .np
 | nm=>exact .nm
 | ifc t ns=>exact .ifc t ns
 | mp l b arr clock hFb hh hm=>exact .mp l b arr clock (hF b hFb) (by rw[hw b hFb];exact hh) hm
 | sl sz n f b o cap cs hFb hn hc hl _ ih=>
  refine .sl sz n f b o cap cs (hF b hFb) hn (λi j hi hj=>?_) hl ih
  rw[←hc i j hi hj]
  exact World.cell?_of_block (w:=w) (hw b hFb)
theorem RD.one{F:Nat->Prop}{w:World}{d:D}{v:Value}(h:RD F w d v):v.oneCell'=true:=by cases h<;>rfl
inductive V where
 | d (x:D)
 | aD
 | ptr (id off:Nat)
 | own (id:Nat)
 | bD (id sz i off:Nat)
 | gU (ds:List D)
 | fn (f:FuncId) (caps:List V)
 | agg (vs:List V)
 | tup (vs:List V)
 | g (p:List (Nat×Bool)) (v:V)
 | dead
instance : Inhabited V := ⟨.dead⟩
abbrev vi(n:Int):V:=.d (.int .i64 n)
abbrev vb(b:Bool):V:=.d (.bool b)
abbrev vs(s:BY):V:=.d (.str s)
def aH{α β:Type}(R:α->β->Prop):List α->List β->Prop
 | [],[]=>True
 | a::as,b::bs=>R a b∧aH R as bs
 | _,_=>False
theorem aH.imp{α α' β:Type}{R:α->β->Prop}{R':α'->β->Prop}{g:α->α'} :
  ∀{as:List α} {bs:List β},(∀a b,a∈as->R a b->R' (g a) b)->aH R as bs->aH R' (as.map g) bs
 | [],[],_,_=>trivial
 | a::as,b::bs,h,⟨h1,h2⟩=>⟨h a b (by simp) h1,aH.imp (λa b ha=>h a b (by simp [ha])) h2⟩
 | [],_::_,_,h=>h.elim
 | _::_,[],_,h=>h.elim
theorem aH.length{α β:Type}{R:α->β->Prop}:∀{as:List α} {bs:List β},aH R as bs->as.length=bs.length
 | [],[],_=>rfl
 | _::_,_::_,⟨_,h⟩=>by simp [aH.length h]
 | [],_::_,h=>h.elim
 | _::_,[],h=>h.elim
theorem aH.get{α β:Type}{R:α->β->Prop}:∀{as:List α} {bs:List β} {i:Nat} {a:α},aH R as bs->as[i]?=some a->∃b,bs[i]?=some b∧R a b
 | [],_,_,_,_,h=>by simp at h
 | _::_,[],_,_,h,_=>h.elim
 | a::as,b::bs,0,a',⟨h,_⟩,e=>by simp at e;subst e;exact⟨b,rfl,h⟩
 | a::as,b::bs,i+1,a',⟨_,h⟩,e=>by simpa using aH.get h (by simpa using e)
theorem aH.set{α β:Type}{R:α->β->Prop}:∀{as:List α} {bs:List β} {i:Nat} {a:α} {b:β},aH R as bs->R a b->aH R (as.set i a) (bs.set i b)
 | [],[],_,_,_,_,_=>trivial
 | _::_,_::_,0,_,_,⟨_,h⟩,e=>⟨e,h⟩
 | _::_,_::_,_+1,_,_,⟨h0,h⟩,e=>⟨h0,aH.set h e⟩
 | [],_::_,_,_,_,h,_=>h.elim
 | _::_,[],_,_,_,h,_=>h.elim
theorem aH.drop{α β:Type}{R:α->β->Prop}:∀{as:List α} {bs:List β} (i:Nat),aH R as bs->aH R (as.drop i) (bs.drop i)
 | [],[],_,_=>by simp [aH]
 | _::_,_::_,0,h=>h
 | _::_,_::_,i+1,⟨_,h⟩=>by simpa using aH.drop i h
 | [],_::_,_,h=>h.elim
 | _::_,[],_,h=>h.elim
theorem aH.take{α β:Type}{R:α->β->Prop}:∀{as:List α} {bs:List β} (i:Nat),aH R as bs->aH R (as.take i) (bs.take i)
 | [],[],_,_=>by simp [aH]
 | _::_,_::_,0,_=>by simp [aH]
 | _::_,_::_,i+1,⟨h0,h⟩=>by simpa [aH] using ⟨h0,aH.take i h⟩
 | [],_::_,_,h=>h.elim
 | _::_,[],_,h=>h.elim
def blk:Value->Option Nat
 | .pointer (some a)=>some a.block
 | .slice (some a) _ _=>some a.block
 | .map (some r)=>some r
 | _=>none
def mine(x:Value):Prop:=(∃a n c,x=.slice a n c)∨∃b,x=.map (some b)
section
variable(ρ:Nat->Value)(F:Nat->Prop)(w:World)
def R0:V->Value->Prop
 | .d x,v=>RD F w x v
 | .aD,v=>v=.slice none 0 0
 | .ptr id off,v=>∃b,ρ id=.pointer (some ⟨b,0,none⟩)∧v=.pointer (some ⟨b,off,none⟩)
 | .own id,v=>v=ρ id∧mine (ρ id)
 | .bD id sz i off,v=>∃b,blk (ρ id)=some b∧v=.pointer (some ⟨b,i*sz+off,none⟩)
 | .gU ds,v=>∃b o,∃cs:Nat->Value,v=.pointer (some ⟨b,o,none⟩)∧F b∧∀j d,ds[j]?=some d->w.cell? ⟨b,o+j,none⟩=some (cs j)∧RD F w d (cs j)
 | .dead,v=>v.oneCell'=true
 | _,_=>False
def R1:V->Value->Prop
 | .fn f caps,v=>∃cs:List Value,v=.func (.func f) #[] cs.toArray∧aH (R0 ρ F w) caps cs
 | u,v=>R0 ρ F w u v
def R2:V->Value->Prop
 | .agg us,v=>∃cs:List Value,v=.agg cs.toArray∧aH (R1 ρ F w) us cs
 | u,v=>R1 ρ F w u v
def R3:V->Value->Prop
 | .tup us,v=>∃cs:List Value,v=.tuple cs.toArray∧aH (R2 ρ F w) us cs
 | u,v=>R2 ρ F w u v
end
def V.leaf:V->Bool
 | .fn .. | .agg _ | .tup _ | .g ..=>false
 | _=>true
def V.fJ(k:V->V):V->V
 | .fn f caps=>.fn f (caps.map k)
 | v=>k v
def V.iQ(k:V->V):V->V
 | .agg us=>.agg (us.map (V.fJ k))
 | v=>V.fJ k v
def V.dz(k:V->V):V->V
 | .tup us=>.tup (us.map (V.iQ k))
 | v=>V.iQ k v
def V.all1(p:V->Bool):V->Bool
 | .fn _ caps=>caps.all p
 | v=>p v
def V.all2(p:V->Bool):V->Bool
 | .agg us=>us.all (V.all1 p)
 | v=>V.all1 p v
def V.aQ(p:V->Bool):V->Bool
 | .tup us=>us.all (V.all2 p)
 | v=>V.all2 p v
section
variable{ρ ρ':Nat->Value}{F F':Nat->Prop}{w w':World}
theorem R0.leaf{u:V}{v:Value}(h:R0 ρ F w u v):u.leaf=true:=by cases u<;>first | rfl | exact h.elim
theorem rQ{u:V}{v:Value}(h:R0 ρ F w u v):R1 ρ F w u v:=by cases u<;>first | exact h | exact h.elim
theorem jE{u:V}{v:Value}(h:R1 ρ F w u v):R2 ρ F w u v:=by cases u<;>first | exact h | exact h.elim
theorem kE{u:V}{v:Value}(h:R2 ρ F w u v):R3 ρ F w u v:=by cases u<;>first | exact h | exact h.elim
theorem R1.map{p:V->Bool}{k:V->V}(hk:∀u v,p u=true->R0 ρ F w u v->R0 ρ' F' w' (k u) v){u:V}{v:Value}(hp:u.all1 p=true)(h:R1 ρ F w u v):R1 ρ' F' w' (u.fJ k) v:=by
 have go:u.leaf=true->p u=true->R0 ρ F w u v->R1 ρ' F' w' (k u) v:=λ_ hp h=>rQ (hk u v hp h)
 cases u with
 | fn f caps=>
  obtain⟨cs,rfl,hcs⟩:=h
  exact⟨cs,Z,hcs.imp λa b ha hab=>hk a b (by simpa using (List.all_eq_true.1 hp) a ha) hab⟩
 | agg us=>exact (show False from h).elim
 | tup us=>exact (show False from h).elim
 | g q u=>exact (show False from h).elim
 | _=>exact go rfl hp h
theorem R2.map{p:V->Bool}{k:V->V}(hk:∀u v,p u=true->R0 ρ F w u v->R0 ρ' F' w' (k u) v){u:V}{v:Value}(hp:u.all2 p=true)(h:R2 ρ F w u v):R2 ρ' F' w' (u.iQ k) v:=by
 cases u with
 | agg us=>
  obtain⟨cs,rfl,hcs⟩:=h
  exact⟨cs,Z,hcs.imp λa b ha hab=>R1.map hk (by simpa using (List.all_eq_true.1 hp) a ha) hab⟩
 | fn f caps=>exact jE (R1.map (u:=.fn f caps) hk hp h)
 | tup us=>exact (show False from h).elim
 | g q u=>exact (show False from h).elim
 | _=>exact jE (rQ (hk _ v hp h))
theorem R3.map{p:V->Bool}{k:V->V}(hk:∀u v,p u=true->R0 ρ F w u v->R0 ρ' F' w' (k u) v){u:V}{v:Value}(hp:u.aQ p=true)(h:R3 ρ F w u v):R3 ρ' F' w' (u.dz k) v:=by
 cases u with
 | tup us=>
  obtain⟨cs,rfl,hcs⟩:=h
  exact⟨cs,Z,hcs.imp λa b ha hab=>R2.map hk (by simpa using (List.all_eq_true.1 hp) a ha) hab⟩
 | fn f caps=>exact kE (jE (R1.map (u:=.fn f caps) hk hp h))
 | agg us=>exact kE (R2.map (u:=.agg us) hk hp h)
 | g q u=>exact (show False from h).elim
 | _=>exact kE (jE (rQ (hk _ v hp h)))
end
def get{α:Type}:List (Nat×α)->Nat->Option α
 | [],_=>none
 | (s,v)::r,t=>bif Nat.beq s t then some v else get r t
def V.gon(d:Nat):V->Bool
 | .g p _=>p.any λe=>Nat.beq e.1 d
 | _=>false
def del(d:Nat):List (Nat×V)->List (Nat×V)
 | []=>[]
 | (s,v)::r=>bif Nat.beq s d||v.gon d then del d r else (s,v)::del d r
def put(L:List (Nat×V))(d:Nat)(v:V):List (Nat×V):=(d,v)::del d L
abbrev Key:=List UInt8 ⊕ Int
def dO:Key->Value
 | .inl l=>.string ⟨l.toArray⟩
 | .inr i=>.int .u8 i
abbrev qJ:Key->Key->Prop
 | .inl a,.inl b=>a=b
 | .inr a,.inr b=>a=b
 | _,_=>False
instance agK : (a b : Key) → Decidable (qJ a b)
 | .inl a,.inl b=>inferInstanceAs (Decidable (a=b))
 | .inr a,.inr b=>inferInstanceAs (Decidable (a=b))
 | .inl _,.inr _=>.isFalse id
 | .inr _,.inl _=>.isFalse id
inductive Ch where
 | box (us:List V)
 | arr (sz n:Nat) (f:Nat->List D)
 | vec (e:TypeId) (sz n:Nat) (f:Nat->List D)
 | iter (s:BY) (pos:Nat)
 | rows (e e':TypeId) (sz n:Nat) (hole:Option Nat) (hs:Nat->Value) (m:Nat->Nat) (f:Nat->Nat->List D)
 | held (e e':TypeId) (sz n k:Nat) (u:V) (hs:Nat->Value) (m:Nat->Nat) (f:Nat->Nat->List D)
 | tbl (es:List (Key×V))
 | bld (T:TypeId) (u:V)
 | pos (l:List BY)
structure St where
 L:List (Nat×V)
 H:List (Nat×Ch)
 m:Nat
def nM(d:Nat):List (Nat×Ch)->List (Nat×Ch)
 | []=>[]
 | (s,v)::r=>bif Nat.beq s d then nM d r else (s,v)::nM d r
theorem get_mem{α:Type}{L:List (Nat×α)}{t:Nat}{v:α}(h:get L t=some v):(t,v)∈L:=by
 induction L with
 | nil=>simp [get] at h
 | cons e r ih=>
  obtain⟨s,u⟩:=e
  unfold get at h
  cases hc:Nat.beq s t with
  | true=>
   rw[hc] at h
   simp at h
   have:=agU hc
   subst this;subst h;simp
  | false=>rw[hc] at h;simp at h;exact List.mem_cons_of_mem _ (ih h)
theorem vG{H:List (Nat×Ch)}{d t:Nat}{c:Ch}(h:(t,c)∈nM d H):(t,c)∈H∧t≠d:=by
 induction H with
 | nil=>simp [nM] at h
 | cons e r ih=>
  obtain⟨s,u⟩:=e
  unfold nM at h
  cases hc:Nat.beq s d with
  | true=>rw[hc] at h;simp at h;exact⟨List.mem_cons_of_mem _ (ih h).1,(ih h).2⟩
  | false=>
   rw[hc] at h
   simp only[cond_false,List.mem_cons,agW] at h
   rcases h with⟨rfl,rfl⟩ | h
   ·exact⟨by simp,λe=>by subst e;simp at hc⟩
   ·exact⟨List.mem_cons_of_mem _ (ih h).1,(ih h).2⟩
theorem Sd{L:List (Nat×V)}{d t:Nat}{v:V}(h:(t,v)∈del d L):(t,v)∈L∧t≠d∧v.gon d=false:=by
 induction L with
 | nil=>simp [del] at h
 | cons e r ih=>
  obtain⟨s,u⟩:=e
  unfold del at h
  cases hc:(Nat.beq s d||u.gon d) with
  | true=>rw[hc] at h;simp at h;exact⟨List.mem_cons_of_mem _ (ih h).1,(ih h).2⟩
  | false=>
   rw[hc] at h
   simp only[cond_false,List.mem_cons,agW] at h
   simp only[ag2] at hc
   rcases h with⟨rfl,rfl⟩ | h
   ·exact⟨by simp,λe=>by subst e;simp at hc,hc.2⟩
   ·exact⟨List.mem_cons_of_mem _ (ih h).1,(ih h).2⟩
def iZ(F:Nat->Prop)(w:World)(sz n:Nat)(f:Nat->List D)(xs:List Value):Prop:=
 ∀i,i<n->(f i).length=sz∧∀j d,(f i)[j]?=some d->∃c,xs[i*sz+j]?=some c∧RD F w d c
def jf(ρ:Nat->Value)(F:Nat->Prop)(w:World)(id:Nat):Ch->Prop
 | .box us=>∃b cs T,ρ id=.pointer (some ⟨b,0,none⟩)∧w.heap[b]?=some (.cells (List.toArray cs) T (0,0))∧aH (R1 ρ F w) us cs
 | .arr sz n f=>∃b cs T,ρ id=.pointer (some ⟨b,0,none⟩)∧w.heap[b]?=some (.cells (List.toArray cs) T (0,0))∧cs.length=n*sz∧iZ F w sz n f cs
 | .vec e sz n f=>∃xs,w.ownsRow 0 e sz (ρ id) n xs∧iZ F w sz n f xs
 | .iter s pos=>∃b,ρ id=.pointer (some ⟨b,0,none⟩)∧w.heap[b]?=some (.stringIter s pos)
 | .rows e e' sz n hole hs m f=>∃xs,w.ownsRow 0 e 1 (ρ id) n xs∧(∀i,i<n->hole≠some i->xs[i]?=some (hs i)∧∃ys,w.ownsRow 0 e' sz (hs i) (m i) ys∧iZ F w sz (m i) (f i) ys)∧
  (∀i b,i<n->hole≠some i->blk (hs i)=some b->blk (ρ id)≠some b)∧(∀i j b,i<n->j<n->hole≠some i->hole≠some j->i≠j->blk (hs i)=some b->blk (hs j)≠some b)
 | .held e e' sz n k u hs m f=>∃xs,w.ownsRow 0 e 1 (ρ id) n xs∧(k<n->∃x,xs[k]?=some x∧R1 ρ F w u x)∧(∀i,i<n->i≠k->xs[i]?=some (hs i)∧∃ys,w.ownsRow 0 e' sz (hs i) (m i) ys∧iZ F w sz (m i) (f i) ys)∧
  (∀i b,i<n->i≠k->blk (hs i)=some b->blk (ρ id)≠some b)∧(∀i j b,i<n->j<n->i≠k->j≠k->i≠j->blk (hs i)=some b->blk (hs j)≠some b)
 | .bld T u=>∃b p x,ρ id=.pointer (some ⟨b,0,none⟩)∧w.heap[b]?=some (.cells #[p,x] T (0,0))∧(p=.pointer none∨p=.pointer (some ⟨b,0,none⟩))∧R1 ρ F w u x
 | .tbl es=>∃b arr clock,ρ id=.map (some b)∧w.heap[b]?=some (.map arr clock)∧aH (λe x=>x.key=dO e.1∧R2 ρ F w e.2 x.val) es arr.toList
 | .pos l=>∃b arr clock,ρ id=.map (some b)∧w.heap[b]?=some (.map arr clock)∧arr.toList.map (λe=>(e.key,e.val))=yB 0 l
def bks(ρ:Nat->Value)(id:Nat):Ch->Nat->Prop
 | .rows _ _ _ n hole hs _ _=>λb=>blk (ρ id)=some b∨∃k,k<n∧hole≠some k∧blk (hs k)=some b
 | .held _ _ _ n k _ hs _ _=>λb=>blk (ρ id)=some b∨∃i,i<n∧i≠k∧blk (hs i)=some b
 | _=>λb=>blk (ρ id)=some b
theorem jX{ρ ρ':Nat->Value}{i:Nat}{c:Ch}(h:ρ' i=ρ i):bks ρ' i c=bks ρ i c:=by cases c<;>simp only[bks,h]
theorem aT{ρ:Nat->Value}{i b:Nat}{c:Ch}(h:blk (ρ i)=some b):bks ρ i c b:=by cases c<;>first | exact h | exact .inl h
def Ko:Ch->Bool
 | .rows ..=>false
 | .held ..=>false
 | _=>true
theorem dI{ρ:Nat->Value}{i b:Nat}{c:Ch}(hp:Ko c=true)(h:bks ρ i c b):blk (ρ i)=some b:=by cases c<;>first | exact h | cases hp
def pcA(tmps:Array Value)(p:List (Nat×Bool)):Prop:=∀e∈p,tmps[e.1]?=some (.bool e.2)
def RS(tmps:Array Value)(ρ:Nat->Value)(F:Nat->Prop)(w:World):V->Value->Prop
 | .g p v,x=>(pcA tmps p->R3 ρ F w v x)∧(¬pcA tmps p->x=undef)
 | v,x=>R3 ρ F w v x
def V.q9(p:V->Bool):V->Bool
 | .g _ v=>v.aQ p
 | v=>v.aQ p
def V.yZ(k:V->V):V->V
 | .g p v=>.g p (v.dz k)
 | v=>v.dz k
def fresh(m:Nat):V->Bool
 | .ptr id _ | .own id | .bD id _ _ _=>Nat.blt id m
 | _=>true
def names(x:Nat):V->Bool
 | .ptr id _ | .own id | .bD id _ _ _=>Nat.beq id x
 | _=>false
def kill(x:Nat)(v:V):V:=bif names x v then .dead else v
def Ch.map(k:V->V):Ch->Ch
 | .box us=>.box (us.map (V.fJ k))
 | .held e e' sz n i u hs m f=>.held e e' sz n i (u.fJ k) hs m f
 | .tbl es=>.tbl (es.map λe=>(e.1,e.2.iQ k))
 | .bld T u=>.bld T (u.fJ k)
 | c=>c
def Ch.all(p:V->Bool):Ch->Bool
 | .box us=>us.all (V.all1 p)
 | .held _ _ _ _ _ u _ _ _=>u.all1 p
 | .tbl es=>es.all λe=>e.2.all2 p
 | .bld _ u=>u.all1 p
 | _=>true
structure Keeps(w0:World)(E:Nat->Prop)(w:World):Prop where
 os:w.os=w0.os
 tape:w.tape=w0.tape
 output:w.output=w0.output
 size:w0.heap.size≤w.heap.size
 block:∀k,k<w0.heap.size->¬E k->w.heap[k]?=w0.heap[k]?
structure Pg where
 P:Program
 env:List (Nat×Nat×(Nat->Value))
def jG(E:List (Nat×Nat×(Nat->Value)))(F:Nat->Prop)(w:World):Prop:=
 ∀g n f,(g,n,f)∈E->F g∧(∀j,j<n->w.cell? ⟨g,j,none⟩=some (f j))∧(n=0->∃m,w.cell? ⟨g,0,none⟩=some (.int .i64 m))
theorem jG.mono{E:List (Nat×Nat×(Nat->Value))}{F F':Nat->Prop}{w w':World}(hF:∀k,F k->F' k)(hw:∀k,F k->w'.heap[k]?=w.heap[k]?)(h:jG E F w):jG E F' w':=
 λg n f hm=>⟨hF g (h g n f hm).1,λj hj=>by rw[←(h g n f hm).2.1 j hj];exact World.cell?_of_block (w:=w) (hw g (h g n f hm).1),λh0=>by
  obtain⟨m,hm'⟩:=(h g n f hm).2.2 h0
  exact⟨m,by rw[←hm'];exact World.cell?_of_block (w:=w) (hw g (h g n f hm).1)⟩⟩
structure Ctx where
 P:Program
 env:List (Nat×Nat×(Nat->Value))
 n:Nat
 w0:World
 E:Nat->Prop
 F0:Nat->Prop
 ρ0:Nat->Value
 fix:Nat
 defs:List Deferred
 rd:Option Nat:=none
 mks:Bool:=false
 lo:Nat:=0
abbrev Ctx.pg(C:Ctx):Pg:=⟨C.P,C.env⟩
abbrev tC(D:Nat):Deferred:={target:=.collected D,args:=#[]}
def Du(C:Ctx)(l:List Deferred)(F:Nat->Prop)(w:World):Prop:=
 ∃ms:List Nat,l=ms.map tC++C.defs∧ms.Nodup∧(C.mks=false->ms=[])∧∀D∈ms,C.lo≤D∧F D∧w.heap[D]?=some (.deferred (some []))
theorem Du.start{C:Ctx}{l:List Deferred}{F:Nat->Prop}{w:World}(h:l=C.defs):Du C l F w:=⟨[],by simp [h],by simp,λ_=>rfl,λ_ h=>by cases h⟩
theorem Du.none{C:Ctx}{l:List Deferred}{F:Nat->Prop}{w:World}(h:Du C l F w)(hm:C.mks=false):l=C.defs:=by
 obtain⟨ms,h1,_,h3,_⟩:=h
 rw[h1,h3 hm];rfl
theorem Du.mono{C:Ctx}{l:List Deferred}{F F':Nat->Prop}{w w':World}(hF:∀k,F k->F' k)(hw:∀k,F k->w'.heap[k]?=w.heap[k]?)(h:Du C l F w):Du C l F' w':=by
 obtain⟨ms,h1,h2,h3,h4⟩:=h
 exact⟨ms,h1,h2,h3,λD hD=>⟨(h4 D hD).1,hF D (h4 D hD).2.1,(hw D (h4 D hD).2.1).trans (h4 D hD).2.2⟩⟩
structure aF(C:Ctx)(s:St)(a:Act)(w:World)(ρ:Nat->Value)(F:Nat->Prop):Prop where
 size:a.tmps.size=C.n
 defers:Du C a.defers F w
 slot:∀t v,(t,v)∈s.L->∃x,a.tmps[t]?=some x∧RS a.tmps ρ F w v x
 ch:∀id c,(id,c)∈s.H->jf ρ F w id c
 sep:∀i j ci cj b,(i,ci)∈s.H->(j,cj)∈s.H->i≠j->bks ρ i ci b->¬bks ρ j cj b
 out:∀i c b,(i,c)∈s.H->bks ρ i c b->¬F b
 aR:∀t v,(t,v)∈s.L->v.q9 (fresh s.m)=true
 aK:∀i c,(i,c)∈s.H->i<s.m∧c.all (fresh s.m)=true
 lt:∀k,F k->k<w.heap.size
 mine:∀i c b,(i,c)∈s.H->bks ρ i c b->C.w0.heap.size≤b∨C.E b
 sub:∀k,F k->C.F0 k∨C.w0.heap.size≤k∨C.E k
 base:∀k,C.F0 k->F k
 cu:C.fix≤s.m∧∀i,i<C.fix->ρ i=C.ρ0 i
 keep:Keeps C.w0 C.E w
 env:jG C.env F w
def Sat(C:Ctx)(s:St)(a:Act)(w:World):Prop:=∃ρ F,aF C s a w ρ F
section
variable{ρ ρ':Nat->Value}{F F':Nat->Prop}{w w':World}
theorem R0.one{u:V}{v:Value}(h:R0 ρ F w u v)(hs:∀id,u=.own id->v.oneCell'=true):v.oneCell'=true:=by
 cases u with
 | d x=>exact RD.one h
 | aD=>rw[show v=_ from h];rfl
 | ptr id off=>obtain⟨b,_,rfl⟩:=h;rfl
 | own id=>exact hs id rfl
 | bD id sz i off=>obtain⟨b,_,rfl⟩:=h;rfl
 | gU ds=>obtain⟨b,o,cs,rfl,_⟩:=h;rfl
 | dead=>exact h
 | _=>exact h.elim
theorem R0.one'{u:V}{v:Value}(h:R0 ρ F w u v):v.oneCell'=true:=
 h.one λid e=>by subst e;obtain⟨rfl,⟨a,n,c,e⟩ | ⟨b,e⟩⟩:=h<;>(rw[e];rfl)
theorem R1.one{u:V}{v:Value}(h:R1 ρ F w u v):v.oneCell'=true:=by
 cases u with
 | fn f caps=>obtain⟨cs,rfl,_⟩:=h;rfl
 | d _=>exact R0.one' (ρ:=ρ) (F:=F) (w:=w) (u:=.d _) h
 | aD=>exact R0.one' (ρ:=ρ) (F:=F) (w:=w) (u:=.aD) h
 | ptr _ _=>exact R0.one' (ρ:=ρ) (F:=F) (w:=w) (u:=.ptr _ _) h
 | own _=>exact R0.one' (ρ:=ρ) (F:=F) (w:=w) (u:=.own _) h
 | bD _ _ _ _=>exact R0.one' (ρ:=ρ) (F:=F) (w:=w) (u:=.bD _ _ _ _) h
 | gU _=>exact R0.one' (ρ:=ρ) (F:=F) (w:=w) (u:=.gU _) h
 | dead=>exact h
 | _=>exact (show False from h).elim
theorem R0.keep{x:Nat}(hρ:∀id,id≠x->ρ' id=ρ id)(hF:∀k,F k->F' k)(hw:∀k,F k->w'.heap[k]?=w.heap[k]?)
  {u:V} {v:Value} (hx:names x u=false) (h:R0 ρ F w u v):R0 ρ' F' w' u v:=by
 have ne:∀id,Nat.beq id x=false->ρ' id=ρ id:=λid e=>hρ id (by rintro rfl;simp at e)
 cases u with
 | d d=>exact RD.mono hF hw h
 | aD=>exact h
 | ptr id off=>obtain⟨b,h1,h2⟩:=h;exact⟨b,by rw[ne id hx];exact h1,h2⟩
 | own id=>obtain⟨h1,h2⟩:=h;exact⟨by rw[ne id hx];exact h1,by rw[ne id hx];exact h2⟩
 | bD id sz i off=>obtain⟨b,h1,h2⟩:=h;exact⟨b,by rw[ne id hx];exact h1,h2⟩
 | gU ds=>
  obtain⟨b,o,cs,h1,h2,h3⟩:=h
  refine⟨b,o,cs,h1,hF _ h2,λj d hd=>⟨?_,RD.mono hF hw (h3 j d hd).2⟩⟩
  rw[←(h3 j d hd).1]
  exact World.cell?_of_block (w:=w) (hw b h2)
 | dead=>exact h
 | _=>exact h.elim
theorem jH{m x:Nat}{u:V}(hm:m≤x)(h:fresh m u=true):names x u=false:=by
 have go:∀id,Nat.blt id m=true->Nat.beq id x=false:=λid h=>by
  have h1:id<m:=by simpa using h
  cases hb:Nat.beq id x with
  | false=>rfl
  | true=>have:=agU hb;omega
 cases u<;>first | rfl | exact go _ h
theorem R0.kill{x:Nat}(hρ:∀id,id≠x->ρ' id=ρ id)(hF:∀k,F k->F' k)(hw:∀k,F k->w'.heap[k]?=w.heap[k]?)
  {u:V} {v:Value} (h:R0 ρ F w u v):R0 ρ' F' w' (kill x u) v:=by
 unfold Sx.kill
 cases hn:names x u with
 | true=>exact h.one'
 | false=>exact h.keep hρ hF hw hn
theorem iZ.keep(hF:∀k,F k->F' k)(hw:∀k,F k->w'.heap[k]?=w.heap[k]?){sz n:Nat}{f:Nat->List D}{xs:List Value}(h:iZ F w sz n f xs):iZ F' w' sz n f xs:=
 λi hi=>⟨(h i hi).1,λj d hd=>let ⟨c,h1,h2⟩:=(h i hi).2 j d hd;⟨c,h1,RD.mono hF hw h2⟩⟩
theorem oq{ρ:Nat->Value}{i:Nat}{c:Ch}{k:V->V}:bks ρ i (c.map k)=bks ρ i c:=by cases c<;>rfl
theorem rR{c:Ch}{k:V->V}:Ko (c.map k)=Ko c:=by cases c<;>rfl
theorem eD{w w':World}{e:TypeId}{sz n:Nat}{v:Value}{xs:List Value}(h:w.ownsRow 0 e sz v n xs)(hb:∀b,blk v=some b->w'.heap[b]?=w.heap[b]?):w'.ownsRow 0 e sz v n xs:=by
 refine⟨h.1,?_⟩
 rcases h.2 with h2 | ⟨g,cap,cur,rfl,h3,h4,h5⟩
 ·exact .inl h2
 ·exact .inr ⟨g,cap,cur,Z,h3,by rw[hb g rfl];exact h4,h5⟩
theorem jf.keep{x:Nat}{p:V->Bool}{k:V->V}(hk:∀u v,p u=true->R0 ρ F w u v->R0 ρ' F' w' (k u) v)(hF:∀k,F k->F' k)(hw:∀k,F k->w'.heap[k]?=w.heap[k]?)
  {id:Nat} {c:Ch} (hid:ρ' id=ρ id) (hb:∀b,bks ρ id c b->w'.heap[b]?=w.heap[b]?) (hp:c.all p=true) (h:jf ρ F w id c):jf ρ' F' w' id (c.map k):=by
 cases c with
 | box us=>
  obtain⟨b,cs,T,h1,h2,h3⟩:=h
  exact⟨b,cs,T,hid.trans h1,by rw[hb b (by show blk (ρ id)=some b;rw[h1];rfl)];exact h2,h3.imp λa b ha hab=>R1.map hk (by simpa using (List.all_eq_true.1 hp) a ha) hab⟩
 | arr sz n f=>
  obtain⟨b,cs,T,h1,h2,h3,h4⟩:=h
  exact⟨b,cs,T,hid.trans h1,by rw[hb b (by show blk (ρ id)=some b;rw[h1];rfl)];exact h2,h3,h4.keep hF hw⟩
 | vec e sz n f=>
  obtain⟨xs,h1,h2⟩:=h
  exact⟨xs,by rw[hid];exact eD h1 hb,h2.keep hF hw⟩
 | iter s pos=>
  obtain⟨b,h1,h2⟩:=h
  exact⟨b,hid.trans h1,by rw[hb b (by show blk (ρ id)=some b;rw[h1];rfl)];exact h2⟩
 | rows e e' sz n hole hs m f=>
  obtain⟨xs,h1,h2,h3,h4⟩:=h
  refine⟨xs,by rw[hid];exact eD h1 λb e=>hb b (.inl e),λi hi hh=>?_,by rw[hid];exact h3,h4⟩
  obtain⟨h5,ys,h6,h7⟩:=h2 i hi hh
  exact⟨h5,ys,eD h6 λb e=>hb b (.inr ⟨i,hi,hh,e⟩),h7.keep hF hw⟩
 | held e e' sz n i u hs m f=>
  obtain⟨xs,h1,h0,h2,h3,h4⟩:=h
  refine⟨xs,by rw[hid];exact eD h1 λb e=>hb b (.inl e),λhi=>?_,λi hi hh=>?_,by rw[hid];exact h3,h4⟩
  ·obtain⟨y,h5,h6⟩:=h0 hi
   exact⟨y,h5,R1.map hk hp h6⟩
  ·obtain⟨h5,ys,h6,h7⟩:=h2 i hi hh
   exact⟨h5,ys,eD h6 λb e=>hb b (.inr ⟨i,hi,hh,e⟩),h7.keep hF hw⟩
 | bld T u=>
  obtain⟨b,p,x,h1,h2,h3,h4⟩:=h
  exact⟨b,p,x,hid.trans h1,by rw[hb b (by show blk (ρ id)=some b;rw[h1];rfl)];exact h2,h3,R1.map hk hp h4⟩
 | tbl es=>
  obtain⟨b,arr,clock,h1,h2,h3⟩:=h
  exact⟨b,arr,clock,hid.trans h1,by rw[hb b (by show blk (ρ id)=some b;rw[h1];rfl)];exact h2,h3.imp λa x ha hx=>⟨hx.1,R2.map hk (by simpa using (List.all_eq_true.1 hp) a ha) hx.2⟩⟩
 | pos l=>
  obtain⟨b,arr,clock,h1,h2,h3⟩:=h
  exact⟨b,arr,clock,hid.trans h1,by rw[hb b (by show blk (ρ id)=some b;rw[h1];rfl)];exact h2,h3⟩
theorem jf.lt{id:Nat}{c:Ch}(h:jf ρ F w id c){b:Nat}(hb:bks ρ id c b):b<w.heap.size:=by
 have own:∀{e:TypeId} {sz n:Nat} {v:Value} {xs:List Value},w.ownsRow 0 e sz v n xs->blk v=some b->b<w.heap.size:=λh1 hb=>by
  rcases h1.2 with⟨h2,_⟩ | ⟨g,cap,cur,h2,_,h4,_⟩
  ·rw[h2] at hb;simp [blk] at hb
  ·rw[h2] at hb;simp [blk] at hb;subst hb;exact (Array.getElem?_eq_some_iff.1 h4).1
 cases c with
 | box us=>obtain⟨b',cs,T,h1,h2,_⟩:=h;change blk (ρ id)=some b at hb;rw[h1] at hb;simp [blk] at hb;subst hb;exact (Array.getElem?_eq_some_iff.1 h2).1
 | arr sz n f=>obtain⟨b',cs,T,h1,h2,_⟩:=h;change blk (ρ id)=some b at hb;rw[h1] at hb;simp [blk] at hb;subst hb;exact (Array.getElem?_eq_some_iff.1 h2).1
 | iter s pos=>obtain⟨b',h1,h2⟩:=h;change blk (ρ id)=some b at hb;rw[h1] at hb;simp [blk] at hb;subst hb;exact (Array.getElem?_eq_some_iff.1 h2).1
 | bld T u=>obtain⟨b',p,x,h1,h2,_⟩:=h;change blk (ρ id)=some b at hb;rw[h1] at hb;simp [blk] at hb;subst hb;exact (Array.getElem?_eq_some_iff.1 h2).1
 | pos l=>obtain⟨b',arr,clock,h1,h2,_⟩:=h;change blk (ρ id)=some b at hb;rw[h1] at hb;simp [blk] at hb;subst hb;exact (Array.getElem?_eq_some_iff.1 h2).1
 | tbl es=>obtain⟨b',arr,clock,h1,h2,_⟩:=h;change blk (ρ id)=some b at hb;rw[h1] at hb;simp [blk] at hb;subst hb;exact (Array.getElem?_eq_some_iff.1 h2).1
 | vec e sz n f=>
  obtain⟨xs,h1,_⟩:=h
  exact own h1 hb
 | rows e e' sz n hole hs m f=>
  obtain⟨xs,h1,h2,_⟩:=h
  rcases hb with hb | ⟨k,hk,hh,hb⟩
  ·exact own h1 hb
  ·obtain⟨_,ys,h3,_⟩:=h2 k hk hh
   exact own h3 hb
 | held e e' sz n i u hs m f=>
  obtain⟨xs,h1,_,h2,_⟩:=h
  rcases hb with hb | ⟨k,hk,hh,hb⟩
  ·exact own h1 hb
  ·obtain⟨_,ys,h3,_⟩:=h2 k hk hh
   exact own h3 hb
end
theorem Keeps.trans{w0 w w':World}{E:Nat->Prop}(h:Keeps w0 E w)(h':Keeps w (λk=>¬(k<w0.heap.size∧¬E k)) w'):Keeps w0 E w':=
 ⟨h'.os.trans h.os,h'.tape.trans h.tape,h'.output.trans h.output,Nat.le_trans h.size h'.size,
  λk hk he=>(h'.block k (Nat.lt_of_lt_of_le hk h.size) (by simp [hk,he])).trans (h.block k hk he)⟩
section
variable{C:Ctx}{s:St}{a:Act}{w w':World}{ρ ρ':Nat->Value}{F F':Nat->Prop}
theorem iK{tmps:Array Value}{v:V}{x:Value}(h:R3 ρ F w v x):RS tmps ρ F w v x:=by
 cases v<;>first | exact h | exact (show False from h).elim
theorem aF.change(h:aF C s a w ρ F){L':List (Nat×V)}{H':List (Nat×Ch)}{m':Nat}(k:V->V)
  (hk:∀u v,fresh s.m u=true->R0 ρ F w u v->R0 ρ' F' w' (k u) v)
  (hL:∀t v',(t,v')∈L'->(∃v,(t,v)∈s.L∧v'=v.yZ k)∧v'.q9 (fresh m')=true)
  (hH:∀i c',(i,c')∈H'->(∃c,(i,c)∈s.H∧c'=c.map k)∧c'.all (fresh m')=true∧ρ' i=ρ i∧∀b,bks ρ i c' b->w'.heap[b]?=w.heap[b]?∧¬F' b)
  (hF:∀k,F k->F' k) (hw:∀k,F k->w'.heap[k]?=w.heap[k]?) (hlt:∀k,F' k->k<w'.heap.size) (hkeep:Keeps C.w0 C.E w') (hm:s.m≤m') (hsub:∀k,F' k->C.F0 k∨C.w0.heap.size≤k∨C.E k) (hfix:∀i,i<C.fix->ρ' i=C.ρ0 i) :
  aF C {L:=L',H:=H',m:=m'} a w' ρ' F' where
 size:=h.size
 defers:=h.defers.mono hF hw
 slot t v' hv':=by
  obtain⟨⟨v,hv,rfl⟩,_⟩:=hL t v' hv'
  obtain⟨x,hx,hr⟩:=h.slot t v hv
  refine⟨x,hx,?_⟩
  have hf:=h.aR t v hv
  cases v with
  | g p u=>exact⟨λhp=>R3.map hk hf (hr.1 hp),hr.2⟩
  | d y=>exact iK (R3.map (u:=.d y) hk hf hr)
  | aD=>exact iK (R3.map (u:=.aD) hk hf hr)
  | ptr y z=>exact iK (R3.map (u:=.ptr y z) hk hf hr)
  | own y=>exact iK (R3.map (u:=.own y) hk hf hr)
  | bD y z i j=>exact iK (R3.map (u:=.bD y z i j) hk hf hr)
  | gU y=>exact iK (R3.map (u:=.gU y) hk hf hr)
  | fn f y=>exact iK (R3.map (u:=.fn f y) hk hf hr)
  | agg y=>exact iK (R3.map (u:=.agg y) hk hf hr)
  | tup y=>exact iK (R3.map (u:=.tup y) hk hf hr)
  | dead=>exact iK (R3.map (u:=.dead) hk hf hr)
 ch i c' hc':=by
  obtain⟨⟨c,hc,rfl⟩,_,hi,hb⟩:=hH i c' hc'
  exact jf.keep (x:=0) (p:=fresh s.m) hk hF hw hi (λb e=>(hb b (by rw[oq];exact e)).1) (h.aK i c hc).2 (h.ch i c hc)
 sep i j ci cj b hi hj hij e:=by
  obtain⟨⟨c,hc,rfl⟩,_,e1,hb⟩:=hH i ci hi
  obtain⟨⟨c2,hc2,rfl⟩,_,e2,_⟩:=hH j cj hj
  rw[jX e1,oq] at e
  rw[jX e2,oq]
  exact h.sep i j c c2 b hc hc2 hij e
 out i ci b hi e:=by
  obtain⟨_,_,e1,hb⟩:=hH i ci hi
  exact (hb b (by rw[←jX e1];exact e)).2
 aR t v' hv':=(hL t v' hv').2
 aK i c' hc':=by
  obtain⟨⟨c,hc,rfl⟩,hf,_⟩:=hH i c' hc'
  exact⟨Nat.lt_of_lt_of_le (h.aK i c hc).1 hm,hf⟩
 lt:=hlt
 mine i c' b hi e:=by
  obtain⟨⟨c,hc,rfl⟩,_,e1,_⟩:=hH i c' hi
  rw[jX e1,oq] at e
  exact h.mine i c b hc e
 sub:=hsub
 base k hk:=hF k (h.base k hk)
 cu:=⟨Nat.le_trans h.cu.1 hm,hfix⟩
 keep:=hkeep
 env:=h.env.mono hF hw
theorem aF.Xf(h:aF C s a w ρ F){x:Nat}{c:Ch}(hc:jf ρ F w x c)(hout:∀b,bks ρ x c b->¬F b∧∀i ci,(i,ci)∈s.H->i≠x->¬bks ρ i ci b)(hx:x<s.m)(hcf:c.all (fresh s.m)=true)(Dv:∀b,bks ρ x c b->C.w0.heap.size≤b∨C.E b) :
  aF C {s with H:=(x,c)::s.H} a w ρ F where
 size:=h.size
 defers:=h.defers
 slot:=h.slot
 ch i c' hi:=by
  rcases List.mem_cons.1 hi with e | hi
  ·obtain⟨rfl,rfl⟩:=Prod.mk.inj e;exact hc
  ·exact h.ch i c' hi
 sep i j ci cj b hi hj hij e:=by
  rcases List.mem_cons.1 hi with e1 | hi'
  ·obtain⟨rfl,rfl⟩:=Prod.mk.inj e1
   rcases List.mem_cons.1 hj with e2 | hj'
   ·obtain⟨rfl,rfl⟩:=Prod.mk.inj e2;exact (hij Z).elim
   ·exact (hout b e).2 j cj hj' (Ne.symm hij)
  ·rcases List.mem_cons.1 hj with e2 | hj'
   ·obtain⟨rfl,rfl⟩:=Prod.mk.inj e2
    exact λe'=>(hout b e').2 i ci hi' hij e
   ·exact h.sep i j ci cj b hi' hj' hij e
 out i ci b hi e:=by
  rcases List.mem_cons.1 hi with e1 | hi
  ·obtain⟨rfl,rfl⟩:=Prod.mk.inj e1;exact (hout b e).1
  ·exact h.out i ci b hi e
 aR:=h.aR
 aK i ci hi:=by
  rcases List.mem_cons.1 hi with e1 | hi
  ·obtain⟨rfl,rfl⟩:=Prod.mk.inj e1;exact⟨hx,hcf⟩
  ·exact h.aK i ci hi
 lt:=h.lt
 mine i ci b hi e:=by
  rcases List.mem_cons.1 hi with e1 | hi
  ·obtain⟨rfl,rfl⟩:=Prod.mk.inj e1;exact Dv b e
  ·exact h.mine i ci b hi e
 sub:=h.sub
 base:=h.base
 cu:=h.cu
 keep:=h.keep
 env:=h.env
theorem iL{a:Act}{d:Nat}{x:Value}{p:List (Nat×Bool)}(hp:(p.any λe=>Nat.beq e.1 d)=false):pcA (a.put (some d) x).tmps p↔pcA a.tmps p:=by
 unfold pcA
 refine forall_congr' λe=>forall_congr' λhe=>?_
 have:e.1≠d:=by
  intro hed
  have:=List.any_eq_false.1 hp e he
  simp [hed] at this
 simp [Act.put,Array.getElem?_setIfInBounds,Ne.symm this]
theorem acF{t d:Nat}{v:V}{x y:Value}(hg:v.gon d=false)(h:RS a.tmps ρ F w v y):RS (a.put (some d) x).tmps ρ F w v y:=by
 cases v with
 | g p u=>exact⟨λhp=>h.1 ((iL hg).1 hp),λhp=>h.2 λhp'=>hp ((iL hg).2 hp')⟩
 | _=>exact h
theorem aF.yC(h:aF C s a w ρ F){d:Nat}{v:V}{x:Value}(hd:d<C.n)(hv:RS (a.put (some d) x).tmps ρ F w v x)(hf:v.q9 (fresh s.m)=true) :
  aF C {s with L:=put s.L d v} (a.put (some d) x) w ρ F where
 size:=by simp [Act.put,h.size]
 defers:=h.defers
 slot t u hu:=by
  rcases List.mem_cons.1 hu with e | hu
  ·obtain⟨rfl,rfl⟩:=Prod.mk.inj e
   refine⟨x,?_,hv⟩
   have:t<a.tmps.size:=by rw[h.size];exact hd
   simp [Act.put,this]
  ·obtain⟨h1,h2,h3⟩:=Sd hu
   obtain⟨y,hy,hr⟩:=h.slot t u h1
   refine⟨y,?_,acF (t:=t) h3 hr⟩
   simp [Act.put,Array.getElem?_setIfInBounds,Ne.symm h2,hy]
 ch:=h.ch
 sep:=h.sep
 out:=h.out
 aR t u hu:=by
  rcases List.mem_cons.1 hu with e | hu
  ·obtain⟨rfl,rfl⟩:=Prod.mk.inj e;exact hf
  ·exact h.aR t u (Sd hu).1
 aK:=h.aK
 lt:=h.lt
 mine:=h.mine
 sub:=h.sub
 base:=h.base
 cu:=h.cu
 keep:=h.keep
 env:=h.env
theorem aF.put(h:aF C s a w ρ F){d:Nat}{v:V}{x:Value}(hd:d<C.n)(hv:R3 ρ F w v x)(hf:v.aQ (fresh s.m)=true) :
  aF C {s with L:=put s.L d v} (a.put (some d) x) w ρ F:=
 h.yC hd (iK hv) (by cases v<;>first | exact hf | exact (show False from hv).elim)
end
inductive TK where
 | int (k:IntKind) | bool | str | slice (e:TypeId) | struct (fs:List (Nat×TypeId)) (ks:List Nat) | array (n:Nat) (e:TypeId) | func | iface | map (k e:TypeId) | ptr | other
structure TI where
 kind:TK
 size:Nat
 bytes:Nat
 zero:List V
def qA:V->Value->Prop
 | .d (.int k n),c=>c=.int k n
 | .d (.bool b),c=>c=.bool b
 | .d (.str s),c=>c=.string s
 | .d .nf,c=>c=.nilFunc
 | .d .ni,c=>c=.nilIface
 | .d .np,c=>c=.pointer none
 | .d .nm,c=>c=.map none
 | .aD,c=>c=.slice none 0 0
 | .dead,c=>c.oneCell'=true
 | _,_=>False
def Dw(P:Program)(t:TypeId)(k:Nat):Bool:=
 match P.underlying t,k with
 | some (.int _),0=>true
 | some .bool,1=>true
 | some .string,2=>true
 | _,_=>false
def rT(P:Program):Nat->List Nat->List Field->Bool
 | _,[],[]=>true
 | i,k::ks,f::fs=>f.name != "_"&&(Nat.beq f.offset i&&(Dw P f.type k&&rT P (i+1) ks fs))
 | _,_,_=>false
def eqTy(P:Program)(t:TypeId)(ks:List Nat):Bool:=
 (match P.underlying t with
  | some (.struct fs)=>rT P 0 ks fs.toList
  | _=>false)&&(!P.stoodInHeld t&&!P.eqGuardType P.depth t)
def Py(P:Program)(t:TypeId):TK->Prop
 | .int k=>P.underlying t=some (.int k)
 | .bool=>P.underlying t=some .bool
 | .str=>P.underlying t=some .string
 | .slice e=>P.underlying t=some (.slice e)
 | .struct fs ks=>(∃fields:Array Field,P.underlying t=some (.struct fields)∧fields.toList.map (λf=>(f.offset,f.type))=fs)∧(ks=[]∨eqTy P t ks=true)
 | .array n e=>P.underlying t=some (.array n e)
 | .func=>∃a b c,P.underlying t=some (.func a b c)
 | .iface=>∃ms,P.underlying t=some (.interface ms)
 | .map k e=>P.underlying t=some (.map k e)
 | .ptr=>∃e,P.underlying t=some (.pointer e)
 | .other=>∃d,P.underlying t=some d∧(match d with | .struct _ | .array _ _=>False | _=>True)
def TK.flat:TK->Bool
 | .struct _ _ | .array _ _=>false
 | _=>true
structure TI.OK(P:Program)(t:TypeId)(ti:TI):Prop where
 und:Py P t ti.kind
 info:∃i z,P.info? t=some i∧i.size=ti.size∧i.bytes=ti.bytes∧i.zero=some z∧z.cells.size=ti.size∧aH qA (match ti.kind with | .array n _=>(List.replicate n ti.zero).flatten | _=>ti.zero) z.cells.toList
 one:∀i z,P.info? t=some i->i.zero=some z->ti.kind.flat=true->z.oneCell'=true
 two:∀i z,P.info? t=some i->i.zero=some z->ti.kind.flat=false->∃cs,z=.agg cs
structure Cfg where
 n:Nat
 fix:Nat
 ck:Bool
 tys:List (Nat×TI)
def bV(P:Program):List (Nat×TI)->Prop
 | []=>True
 | (t,ti)::r=>ti.OK P t∧bV P r
theorem bV.mem{P:Program}:∀{l:List (Nat×TI)} {t:Nat} {ti:TI},bV P l->(t,ti)∈l->ti.OK P t
 | (t',ti')::r,t,ti,⟨h1,h2⟩,hm=>by
  rcases List.mem_cons.1 hm with e | hm
  ·obtain⟨rfl,rfl⟩:=Prod.mk.inj e;exact h1
  ·exact h2.mem hm
def lk(g:Cfg)(t:TypeId):Option TI:=get g.tys t
def pre:List (Nat×Bool)->List (Nat×Bool)->Bool
 | [],_=>true
 | (s,u)::p,(t,v)::q=>Nat.beq s t&&(u == v)&&pre p q
 | _::_,[]=>false
theorem BQ{tmps:Array Value}:∀{p q:List (Nat×Bool)},pre p q=true->pcA tmps q->pcA tmps p
 | [],_,_,_=>λe he=>by cases he
 | (s,u)::p,(t,v)::q,h,hq=>by
  simp only[pre,agN,beq_iff_eq] at h
  obtain⟨⟨h1,h2⟩,h3⟩:=h
  have h1:=agU h1
  subst h1 h2
  intro e he
  rcases List.mem_cons.1 he with rfl | he
  ·exact hq _ (by simp)
  ·exact BQ h3 (λe he=>hq e (by simp [he])) e he
 | _::_,[],h,_=>by simp [pre] at h
def Xg:Value->Option V
 | .int k n=>some (.d (.int k n))
 | .bool b=>some (.d (.bool b))
 | .string s=>some (.d (.str s))
 | .slice none 0 0=>some .aD
 | .map none=>some (.d .nm)
 | .pointer none=>some (.d .np)
 | .nilFunc=>some (.d .nf)
 | .nilIface=>some (.d .ni)
 | _=>none
def strip(q:List (Nat×Bool)):V->Option V
 | .g p v=>bif pre p q then some v else none
 | v=>some v
def ev(L:List (Nat×V))(q:List (Nat×Bool)):Operand->Option V
 | .const v=>Xg v
 | .func f=>some (.fn f [])
 | .global _=>none
 | .tmp t=>match get L t with
  | none=>none
  | some v=>strip q v
section
variable{C:Ctx}{s:St}{a:Act}{w:World}{ρ:Nat->Value}{F:Nat->Prop}{q:List (Nat×Bool)}
theorem LQ{x:Value}{v:V}(h:Xg x=some v):R3 ρ F w v x∧v.aQ (fresh s.m)=true:=by
 unfold Xg at h
 split at h<;>simp at h<;>subst h
 ·exact⟨RD.int _ _,Z⟩
 ·exact⟨RD.bool _,Z⟩
 ·exact⟨RD.str _,Z⟩
 ·exact⟨Z,Z⟩
 ·exact⟨RD.nm,Z⟩
 ·exact⟨RD.np,Z⟩
 ·exact⟨RD.nf,Z⟩
 ·exact⟨RD.ni,Z⟩
theorem LU{v u:V}{tmps:Array Value}{x:Value}{m:Nat}(hq:pcA tmps q)(h:strip q v=some u)(hr:RS tmps ρ F w v x)(hf:v.q9 (fresh m)=true):R3 ρ F w u x∧u.aQ (fresh m)=true:=by
 cases v with
 | g p y=>
  simp only[strip] at h
  cases hp:pre p q with
  | false=>rw[hp] at h;simp at h
  | true=>
   rw[hp] at h
   simp at h
   subst h
   exact⟨hr.1 (BQ hp hq),hf⟩
 | _=>simp only[strip,agR] at h;subst h;exact⟨hr,hf⟩
theorem aC(h:aF C s a w ρ F)(hq:pcA a.tmps q){x:Operand}{v:V}(he:ev s.L q x=some v):R3 ρ F w v (a.eval x)∧v.aQ (fresh s.m)=true:=by
 cases x with
 | const y=>exact LQ he
 | func f=>simp only[ev,agR] at he;subst he;exact⟨⟨[],rfl,tR⟩,rfl⟩
 | global y=>simp [ev] at he
 | tmp t=>
  simp only[ev] at he
  cases hg:get s.L t with
  | none=>rw[hg] at he;simp at he
  | some u=>
   rw[hg] at he
   obtain⟨y,hy,hr⟩:=h.slot t u (get_mem hg)
   have:a.eval (.tmp t)=y:=by simp [Act.eval,Array.getD_eq_getD_getElem?,hy]
   rw[this]
   exact LU hq he hr (h.aR t u (get_mem hg))
end
def kn:IntKind->Nat
 | .i8=>0 | .i16=>1 | .i32=>2 | .i64=>3 | .u8=>4 | .u16=>5 | .u32=>6 | .u64=>7
def y7(a b:IntKind):Bool:=Nat.beq (kn a) (kn b)
theorem EN{a b:IntKind}(h:y7 a b=true):a=b:=by
 have:=agU h
 cases a<;>cases b<;>simp [kn] at this<;>rfl
def ak:List Prop->Prop
 | []=>True
 | [p]=>p
 | p::q::r=>p∧ak (q::r)
theorem xC(p:Prop)(r:List Prop):ak (p::r)↔p∧ak r:=by
 cases r<;>simp [ak]
theorem Dx:∀(a b:List Prop),ak (a++b)↔ak a∧ak b
 | [],b=>by simp [ak]
 | p::a,b=>by rw[List.cons_append,xC,xC,Dx a b,and_assoc]
def aj(n:Int):Prop:=-9223372036854775808≤n∧n≤9223372036854775807
def num(ck:Bool)(k:IntKind)(n:Int):V×List Prop:=
 match ck,k with
 | true,.i64=>(.d (.int .i64 n),[aj n])
 | _,k=>(.d (.int k (k.wrap n)),[])
theorem aas{n:Int}(h:aj n):IntKind.i64.wrap n=n:=by rw[IntKind.wrap_i64];unfold aj at h;omega
theorem rU{ck:Bool}{k:IntKind}{n:Int}(h:ak (num ck k n).2):(num ck k n).1=.d (.int k (k.wrap n)):=by
 unfold num at *
 split at h
 ·rw[aas (show aj n from h)]
 ·rfl
def ou(op:BinOp)(k:IntKind)(x y:Int):Int:=
 let a:=BitVec.ofInt k.bits x
 let b:=BitVec.ofInt k.bits y
 match op with
 | .and=>k.wrap (a&&& b).toNat
 | .or=>k.wrap (a||| b).toNat
 | .xor=>k.wrap (a ^^^ b).toNat
 | _=>k.wrap (a&&& ~~~b).toNat
def acG(ck:Bool)(op:BinOp)(k:IntKind)(a b:Int):Option (V×List Prop):=
 match op with
 | .add=>some (num ck k (a+b))
 | .sub=>some (num ck k (a-b))
 | .mul=>some (num ck k (a*b))
 | .quo=>match num ck k (a.tdiv b) with | (v,p)=>some (v,(b≠0)::p)
 | .rem=>some (.d (.int k (a.tmod b)),[b≠0])
 | .and=>some (.d (.int k (ou .and k a b)),[])
 | .or=>some (.d (.int k (ou .or k a b)),[])
 | .xor=>some (.d (.int k (ou .xor k a b)),[])
 | .andNot=>some (.d (.int k (ou .andNot k a b)),[])
 | .eql=>some (vb (decide (a=b)),[])
 | .neq=>some (vb (!decide (a=b)),[])
 | .lss=>some (vb (decide (a<b)),[])
 | .leq=>some (vb (decide (a≤b)),[])
 | .gtr=>some (vb (decide (b<a)),[])
 | .geq=>some (vb (decide (b≤a)),[])
 | _=>none
def shE(op:BinOp)(k:IntKind)(a b:Int):Option (V×List Prop):=
 match op with
 | .shl=>some (.d (.int k (k.wrap (a*2 ^ (min b.toNat k.bits)))),[0≤b])
 | .shr=>some (.d (.int k (a.fdiv (2 ^ (min b.toNat k.bits)))),[0≤b])
 | _=>none
def aer:BinOp->Bool
 | .shl | .shr=>true
 | _=>false
def acH(op:BinOp)(a b:BY):Option (V×List Prop):=
 match op with
 | .add=>some (vs (a++b),[((a.size+b.size:Nat):Int)≤9223372036854775807])
 | .eql=>some (vb (decide (a.data.toList=b.data.toList)),[])
 | .neq=>some (vb (!decide (a.data.toList=b.data.toList)),[])
 | .lss=>some (vb (Op.bytesLess a.data.toList b.data.toList),[])
 | .geq=>some (vb (!Op.bytesLess a.data.toList b.data.toList),[])
 | _=>none
def eqD:Nat->D->D->Option Bool
 | 0,.int k a,.int k' b=>bif y7 k k' then some (decide (a=b)) else none
 | 1,.bool a,.bool b=>some (a == b)
 | 2,.str a,.str b=>some (decide (a.data.toList=b.data.toList))
 | _,_,_=>none
def eqL:List Nat->List V->List V->Option Bool
 | [],[],[]=>some true
 | k::ks,.d a::us,.d b::vs=>match eqD k a b,eqL ks us vs with
  | some x,some y=>some (x&&y)
  | _,_=>none
 | _,_,_=>none
def acI(g:Cfg)(ck:Bool)(op:BinOp)(t:TypeId):V->V->Option (V×List Prop)
 | .d (.int k a),.d (.int k' b)=>bif aer op then shE op k a b else bif y7 k k' then acG ck op k a b else none
 | .d (.str a),.d (.str b)=>acH op a b
 | .d (.bool a),.d (.bool b)=>match lk g t with
  | some {kind:=.bool,..}=>match op with
   | .eql=>some (vb (a == b),[])
   | .neq=>some (vb (!(a == b)),[])
   | _=>none
  | _=>none
 | .agg us,.agg vs=>match lk g t with
  | some {kind:=.struct _ (k::ks),..}=>match eqL (k::ks) us vs with
   | some r=>match op with
    | .eql=>some (vb r,[])
    | .neq=>some (vb (!r),[])
    | _=>none
   | none=>none
  | _=>none
 | _,_=>none
def Yields(P:Program)(m:Sem Next)(w:World)(x:Value):Prop:=
 ∀w',(∀k,k<w.heap.size->w'.heap[k]?=w.heap[k]?)->m.run P w'=.ok (.value x) w'
theorem toList_eq(a b:BY):(a.toList == b.toList)=decide (a.data.toList=b.data.toList):=by
 rw[ByteArray.toList_eq,ByteArray.toList_eq,Bool.eq_iff_iff];simp
section
variable{P:Program}{w:World}{ρ:Nat->Value}{F:Nat->Prop}
theorem vH{t:TypeId}{d:TypeDesc}(h:P.underlying t=some d)(hd:(match d with | .struct _ | .array _ _=>true | _=>false)=false)(w:World):(isAgg t).run P w=.ok false w:=by
 cases d<;>simp_all [isAgg,run_underlying h]
theorem Uj{t:TypeId}{k:Nat}(h:Dw P t k=true)(w:World):(isAgg t).run P w=.ok false w:=by
 unfold Dw at h
 split at h
 ·rename_i hk;exact vH hk Z w
 ·rename_i hk;exact vH hk Z w
 ·rename_i hk;exact vH hk Z w
 ·cases h
theorem aat{t:TypeId}{k:Nat}(ht:Dw P t k=true){a b:D}{x y:Value}{r:Bool}(h:eqD k a b=some r)(hx:RD F w a x)(hy:RD F w b y)(d:Nat)(w':World) :
  (Op.equalIn (d+1) t x y).run P w'=.ok r w':=by
 unfold eqD at h
 split at h
 ·rename_i k' n k2 m
  cases hk:y7 k' k2 with
  | false=>rw[hk] at h;simp at h
  | true=>
   rw[hk] at h
   have:=EN hk
   subst this
   simp only[cond_true,agR] at h
   subst h
   cases hx;cases hy
   unfold Dw at ht
   split at ht
   ·rename_i k3 e _
    rw[run_equalIn_int w' d t _ k3 _ _ e]
    congr 1
   ·rename_i hx;cases hx
   ·rename_i hx;cases hx
   ·cases ht
 ·simp only[agR] at h
  subst h
  cases hx;cases hy
  unfold Dw at ht
  split at ht
  ·rename_i hx;cases hx
  ·rename_i e _
   rw[run_equalIn_bool' w' d t _ _ e]
  ·rename_i hx;cases hx
  ·cases ht
 ·simp only[agR] at h
  subst h
  cases hx;cases hy
  unfold Dw at ht
  split at ht
  ·rename_i hx;cases hx
  ·rename_i hx;cases hx
  ·rename_i e _
   rw[run_equalIn_string w' d t _ _ e,toList_eq]
  ·cases ht
 ·simp at h
theorem LV{t:TypeId}{k:Nat}(ht:Dw P t k=true){xs:Array Value}{i:Nat}{x:Value}(hx:xs[i]?=some x)(w:World):(part t xs i).run P w=.ok x w:=by
 unfold part
 rw[Sem.run_bind,Uj ht]
 simp only[Result.andThen,ag0,if_false,hx]
 rfl
theorem Ae(d:Nat)(w':World){xs ys:Array Value}:∀{ks:List Nat} {fs:List Field} {us vs:List V} {i:Nat} {r:Bool},rT P i ks fs=true->eqL ks us vs=some r->
  aH (R1 ρ F w) us (xs.toList.drop i)->aH (R1 ρ F w) vs (ys.toList.drop i)->(Op.eqFields (d+1) xs ys fs).run P w'=.ok r w'
 | [],[],us,vs,i,r,_,he,_,_=>by
  match us,vs,he with
  | [],[],he=>simp only[eqL,agR] at he;subst he;rfl
 | [],_::_,_,_,_,_,h,_,_,_=>by simp [rT] at h
 | _::_,[],_,_,_,_,h,_,_,_=>by simp [rT] at h
 | k::ks,f::fs,us,vs,i,r,h,he,hx,hy=>by
  simp only[rT,agN,bne_iff_ne,ne_eq] at h
  obtain⟨h1,h2,h3,h4⟩:=h
  have h2:=agU h2
  match us,vs,he with
  | .d a::us,.d b::vs,he=>
   simp only[eqL] at he
   split at he
   ·rename_i r1 r2 e1 e2
    simp only[agR] at he
    subst he
    have get:∀{zs:Array Value} {u:V} {us:List V},aH (R1 ρ F w) (u::us) (zs.toList.drop i)->∃z,zs[i]?=some z∧R1 ρ F w u z∧aH (R1 ρ F w) us (zs.toList.drop (i+1)):=λ{zs u us} h=>by
     cases hd:zs.toList.drop i with
     | nil=>rw[hd] at h;exact h.elim
     | cons z r=>
      rw[hd] at h
      refine⟨z,?_,h.1,?_⟩
      ·have:=congrArg (λl=>l[0]?) hd
       simpa using this
      ·have:zs.toList.drop (i+1)=r:=by
        rw[←List.tail_drop,hd];rfl
       rw[this];exact h.2
    obtain⟨x,gx,rx,tx⟩:=get hx
    obtain⟨y,gy,ry,ty⟩:=get hy
    have e3:=aat (F:=F) (w:=w) h3 e1 rx ry d w'
    rw[Op.eqFields,if_pos h1,h2]
    simp only[Sem.run_bind,LV h3 gx,LV h3 gy,Result.andThen,e3]
    cases r1 with
    | false=>rfl
    | true=>
     simp only[Bool.not_true,ag0,if_false,Bool.true_and]
     exact Ae d w' h4 e2 tx ty
   ·cases he
theorem acJ{t:TypeId}{ks:List Nat}(hT:eqTy P t ks=true){us vs:List V}{r:Bool}(h:eqL ks us vs=some r){xs ys:Array Value}(hx:aH (R1 ρ F w) us xs.toList)(hy:aH (R1 ρ F w) vs ys.toList)(w':World) :
  (Op.equalIn 10000 t (.agg xs) (.agg ys)).run P w'=.ok r w'∧∀op ox oy,(eqGuard op t ox oy (.agg xs) (.agg ys)).run P w'=.ok () w':=by
 unfold eqTy at hT
 simp only[agN,agZ] at hT
 obtain⟨h1,h2,h3⟩:=hT
 split at h1
 ·rename_i fs hu
  have hf:P.fieldsOf t=fs:=by unfold Program.fieldsOf;rw[hu]
  refine⟨?_,λop ox oy=>run_eqGuard_agg w' op t ox oy xs ys h3⟩
  rw[run_equalIn_struct w' 9999 t xs ys (by rw[hf];exact hu) h2,hf]
  exact Ae 9998 w' h1 h (by simpa using hx) (by simpa using hy)
 ·cases h1
end
section
variable{P:Program}{w:World}{ρ:Nat->Value}{F:Nat->Prop}
theorem Yields.of{m:Sem Next}{x:Value}(h:∀w',m.run P w'=.ok (.value x) w'):Yields P m w x:=λw' _=>h w'
theorem uY{m:Sem Value}{w w':World}{x:Value}(h:m.run P w=.ok x w'):((do pure (.value (←m)):Sem Next)).run P w=.ok (.value x) w':=by
 rw[Sem.run_bind,h];rfl
def Pz:Value->Bool
 | .nilIface | .agg _=>false
 | _=>true
theorem Kq(op:BinOp)(t:TypeId)(x y:Operand)(a b:Value)(w:World)(h:Pz a=true):(eqGuard op t x y a b).run P w=.ok () w:=by
 unfold eqGuard
 cases a<;>simp [Pz] at h<;>(split<;>rfl)
theorem Uk{op:BinOp}{t:TypeId}{k:IntKind}{a b:Int}{ck:Bool}{v:V}{ob:List Prop}{m:Nat}(h:acG ck op k a b=some (v,ob))(hob:ak ob) :
  ∃x,R3 ρ F w v x∧v.aQ (fresh m)=true∧∀w',(binOp op t (.int k a) (.int k b)).run P w'=.ok x w':=by
 have nm:∀n,ak (num ck k n).2->R3 ρ F w (num ck k n).1 (.int k (k.wrap n))∧(num ck k n).1.aQ (fresh m)=true:=λn hn=>by
  rw[rU hn];exact⟨RD.int _ _,Z⟩
 cases op<;>simp only[acG,agR,reduceCtorEq] at h
 case quo=>
  obtain⟨rfl,rfl⟩:=Prod.mk.inj h
  rw[xC] at hob
  exact⟨_,(nm _ hob.2).1,(nm _ hob.2).2,λw'=>by simp [binOp,Op.intDiv,hob.1]⟩
 case rem=>
  obtain⟨rfl,rfl⟩:=Prod.mk.inj h
  have hob:b≠0:=hob
  exact⟨_,RD.int _ _,Z,λw'=>by simp [binOp,Op.intDiv,hob]⟩
 case add | sub | mul=>
  obtain⟨rfl,rfl⟩:_∧_:=⟨congrArg Prod.fst h,congrArg Prod.snd h⟩
  exact⟨_,(nm _ hob).1,(nm _ hob).2,λw'=>by simp [binOp,Op.intArith]⟩
 case and | or | xor | andNot=>
  obtain⟨rfl,rfl⟩:=Prod.mk.inj h
  exact⟨_,RD.int _ _,Z,λw'=>by simp [binOp,Op.intBits,ou]⟩
 case eql | neq | lss | leq | gtr | geq=>
  obtain⟨rfl,rfl⟩:=Prod.mk.inj h
  refine⟨_,RD.bool _,Z,λw'=>?_⟩
  simp [binOp,Op.intCmp]
  try rw[Bool.eq_iff_iff]
  try simp
theorem Xh{op:BinOp}{t:TypeId}{k k':IntKind}{a b:Int}{v:V}{ob:List Prop}{m:Nat}(h:shE op k a b=some (v,ob))(hob:ak ob) :
  ∃x,R3 ρ F w v x∧v.aQ (fresh m)=true∧∀w',(binOp op t (.int k a) (.int k' b)).run P w'=.ok x w':=by
 cases op<;>simp only[shE,agR,reduceCtorEq] at h
 all_goals
  obtain⟨rfl,rfl⟩:=Prod.mk.inj h
  have hob:0≤b:=hob
  have hb:¬b<0:=by omega
  exact⟨_,RD.int _ _,Z,λw'=>by simp [binOp,Op.shift,hb]⟩
theorem Ul{op:BinOp}{t:TypeId}{a b:BY}{v:V}{ob:List Prop}{m:Nat}(h:acH op a b=some (v,ob))(hob:ak ob) :
  ∃x,R3 ρ F w v x∧v.aQ (fresh m)=true∧∀w',(binOp op t (.string a) (.string b)).run P w'=.ok x w':=by
 cases op<;>simp only[acH,agR,reduceCtorEq] at h
 all_goals obtain⟨rfl,rfl⟩:=Prod.mk.inj h
 case add=>
  refine⟨_,RD.str _,Z,λw'=>?_⟩
  have hob:((a.size+b.size:Nat):Int)≤9223372036854775807:=hob
  have:¬((a.size+b.size:Nat):Int) > IntKind.i64.max:=by simp only[IntKind.max,IntKind.bits,IntKind.signed];simp at hob ⊢;omega
  simp only[binOp,Op.stringOp,this,if_false];rfl
 all_goals
  refine⟨_,RD.bool _,Z,λw'=>?_⟩
  first
   | (simp only[binOp,Op.stringOp,toList_eq];rfl)
   | (simp only[binOp,Op.stringOp,ByteArray.toList_eq];rfl)
theorem bS{g:Cfg}(hg:bV P g.tys){t:TypeId}{ti:TI}(h:lk g t=some ti):ti.OK P t:=hg.mem (get_mem h)
theorem aP{t:TypeId}{d:TypeDesc}(h:P.underlying t=some d)(w:World):(underlying t).run P w=.ok d w:=run_underlying h w
theorem Fe{t:TypeId}(hu:P.underlying t=some .bool)(a b:Bool)(w:World):(Op.equal t (.bool a) (.bool b)).run P w=.ok (a == b) w:=by
 have:∀d,(Op.equalIn (d+1) t (.bool a) (.bool b)).run P w=.ok (a == b) w:=λd=>by
  simp only[Op.equalIn,Sem.run_bind,aP hu,Result.andThen];rfl
 exact this 9999
theorem Um{g:Cfg}(hg:bV P g.tys){ck:Bool}{op:BinOp}{t:TypeId}{x y v:V}{vx vy:Value}{ob:List Prop}{m:Nat}{ox oy:Operand}(h:acI g ck op t x y=some (v,ob))(hob:ak ob)
  (hx:R3 ρ F w x vx) (hy:R3 ρ F w y vy) :
  ∃r,R3 ρ F w v r∧v.aQ (fresh m)=true∧∀w',(do eqGuard op t ox oy vx vy;binOp op t vx vy:Sem Value).run P w'=.ok r w':=by
 have fin:Pz vx=true->(∃r,R3 ρ F w v r∧v.aQ (fresh m)=true∧∀w',(binOp op t vx vy).run P w'=.ok r w')->
   ∃r,R3 ρ F w v r∧v.aQ (fresh m)=true∧∀w',(do eqGuard op t ox oy vx vy;binOp op t vx vy:Sem Value).run P w'=.ok r w':=by
  rintro hp ⟨r,h1,h2,h3⟩
  exact⟨r,h1,h2,λw'=>by rw[Sem.run_bind,Kq _ _ _ _ _ _ _ hp];exact h3 w'⟩
 unfold acI at h
 split at h
 ·cases (show RD F w _ _ from hx);cases (show RD F w _ _ from hy)
  refine fin Z ?_
  cases hs:aer op with
  | true=>rw[hs] at h;exact Xh h hob
  | false=>
   rw[hs] at h
   simp only[cond_false] at h
   cases hk:y7 _ _ with
   | false=>rw[hk] at h;simp at h
   | true=>rw[hk] at h;have:=EN hk;subst this;exact Uk h hob
 ·cases (show RD F w _ _ from hx);cases (show RD F w _ _ from hy)
  exact fin Z (Ul h hob)
 ·cases (show RD F w _ _ from hx);cases (show RD F w _ _ from hy)
  refine fin Z ?_
  split at h
  ·rename_i hl
   have hu:P.underlying t=some .bool:=(bS hg hl).und
   split at h
   ·obtain⟨rfl,rfl⟩:=Prod.mk.inj (agS h)
    exact⟨_,RD.bool _,Z,λw'=>by simp only[binOp,Sem.run_bind,Fe hu,Result.andThen];rfl⟩
   ·obtain⟨rfl,rfl⟩:=Prod.mk.inj (agS h)
    exact⟨_,RD.bool _,Z,λw'=>by simp only[binOp,Sem.run_bind,Fe hu,Result.andThen];rfl⟩
   ·simp at h
  ·simp at h
 ·rename_i us vs
  split at h
  ·rename_i fs k ks _ _ _ hl
   split at h
   ·rename_i r hr
    obtain⟨cs,rfl,hc⟩:=(show R2 ρ F w (.agg us) vx from hx)
    obtain⟨ds,rfl,hd⟩:=(show R2 ρ F w (.agg vs) vy from hy)
    have hT:eqTy P t (k::ks)=true:=by
     rcases (show Py P t (.struct fs (k::ks)) from (bS hg hl).und).2 with h | h
     ·cases h
     ·exact h
    have hq:=λw'=>acJ (ρ:=ρ) (F:=F) (w:=w) hT hr (xs:=cs.toArray) (ys:=ds.toArray) (by simpa using hc) (by simpa using hd) w'
    split at h
    ·obtain⟨rfl,rfl⟩:=Prod.mk.inj (agS h)
     exact⟨_,RD.bool _,Z,λw'=>by rw[Sem.run_bind,(hq w').2];simp only[Result.andThen,run_eql_struct,(hq w').1]⟩
    ·obtain⟨rfl,rfl⟩:=Prod.mk.inj (agS h)
     exact⟨_,RD.bool _,Z,λw'=>by rw[Sem.run_bind,(hq w').2];simp only[Result.andThen,run_neq_struct,(hq w').1]⟩
    ·simp at h
   ·simp at h
  ·simp at h
 ·simp at h
def Xi:Operand->Option Nat
 | .const .nilFunc=>some 1
 | .const .nilIface=>some 0
 | .const (.pointer none)=>some 2
 | _=>none
def aau:Nat->Value
 | 1=>.nilFunc
 | 0=>.nilIface
 | _=>.pointer none
theorem Xj{y:Operand}{k:Nat}(h:Xi y=some k):y=.const (aau k):=by
 unfold Xi at h
 split at h<;>simp only[agR,reduceCtorEq] at h<;>subst h<;>rfl
def eqn:BinOp->Bool->Option (V×List Prop)
 | .eql,b=>some (vb b,[])
 | .neq,b=>some (vb (!b),[])
 | _,_=>none
def acK(g:Cfg)(op:BinOp)(t:TypeId)(k:Nat)(u:V):Option (V×List Prop):=
 match lk g t with
 | some ti=>match k,ti.kind,u with
  | 1,.func,.fn _ _=>eqn op false
  | 1,.func,.d .nf=>eqn op true
  | 0,.iface,.d (.ifc _ _)=>eqn op false
  | 0,.iface,.d .ni=>eqn op true
  | 2,.ptr,.ptr _ _=>eqn op false
  | 2,.ptr,.d .np=>eqn op true
  | _,_,_=>none
 | none=>none
theorem oU{op:BinOp}{t:TypeId}{b:Bool}{v:V}{ob:List Prop}{m:Nat}{x y:Value}{ox oy:Operand}(h:eqn op b=some (v,ob))(hg:∀w',(eqGuard op t ox oy x y).run P w'=.ok () w')(he:∀w',(Op.equal t x y).run P w'=.ok b w')
  (hs:∀w' op,op=.eql∨op=.neq->(binOp op t x y).run P w'=(do let b ←Op.equal t x y;pure (.bool (if op=.eql then b else !b)):Sem Value).run P w') :
  ∃r,R3 ρ F w v r∧v.aQ (fresh m)=true∧∀w',(do eqGuard op t ox oy x y;binOp op t x y:Sem Value).run P w'=.ok r w':=by
 unfold eqn at h
 split at h
 ·obtain⟨rfl,rfl⟩:=Prod.mk.inj (agS h)
  exact⟨_,RD.bool _,Z,λw'=>by rw[Sem.run_bind,hg];simp only[Result.andThen];rw[hs w' _ (.inl Z),Sem.run_bind,he];rfl⟩
 ·obtain⟨rfl,rfl⟩:=Prod.mk.inj (agS h)
  exact⟨_,RD.bool _,Z,λw'=>by rw[Sem.run_bind,hg];simp only[Result.andThen];rw[hs w' _ (.inr Z),Sem.run_bind,he];rfl⟩
 ·simp at h
theorem Un{g:Cfg}(hg:bV P g.tys){op:BinOp}{t:TypeId}{k:Nat}{u v:V}{vx:Value}{ob:List Prop}{m:Nat}{ox:Operand}(h:acK g op t k u=some (v,ob))(hx:R3 ρ F w u vx) :
  ∃r,R3 ρ F w v r∧v.aQ (fresh m)=true∧∀w',(do eqGuard op t ox (.const (aau k)) vx (aau k);binOp op t vx (aau k):Sem Value).run P w'=.ok r w':=by
 unfold acK at h
 split at h
 ·rename_i ti hl
  have nN:=(bS hg hl).und
  split at h
  ·rename_i f caps hk
   rw[hk] at nN
   obtain⟨a,b,c,hu⟩:=nN
   obtain⟨cs,rfl,_⟩:=(show R1 ρ F w (.fn f caps) vx from hx)
   refine oU h (λw'=>by unfold eqGuard;cases op<;>rfl) (λw'=>?_) (λw' op ho=>by rcases ho with rfl | rfl<;>rfl)
   have hq:∀d,(Op.equalIn (d+1) t (.func (.func f) #[] cs.toArray) .nilFunc).run P w'=.ok false w':=λd=>by
    simp only[Op.equalIn,Sem.run_bind,aP hu,Result.andThen];rfl
   exact hq 9999
  ·rename_i hk
   rw[hk] at nN
   obtain⟨a,b,c,hu⟩:=nN
   cases (show RD F w _ _ from hx)
   refine oU h (λw'=>by unfold eqGuard;cases op<;>rfl) (λw'=>?_) (λw' op ho=>by rcases ho with rfl | rfl<;>rfl)
   have hq:∀d,(Op.equalIn (d+1) t (.nilFunc) .nilFunc).run P w'=.ok true w':=λd=>by
    simp only[Op.equalIn,Sem.run_bind,aP hu,Result.andThen];rfl
   exact hq 9999
  ·rename_i t' ns hk
   rw[hk] at nN
   obtain⟨ms,hu⟩:=nN
   cases (show RD F w _ _ from hx)
   refine oU h (λw'=>by unfold eqGuard;cases op<;>rfl) (λw'=>?_) (λw' op ho=>by rcases ho with rfl | rfl<;>rfl)
   have hq:∀d,(Op.equalIn (d+1) t (.iface t' (.agg (ns.map λx=>Value.int x.1 x.2).toArray)) .nilIface).run P w'=.ok false w':=λd=>by
    simp only[Op.equalIn,Sem.run_bind,aP hu,Result.andThen];rfl
   exact hq 9999
  ·rename_i hk
   rw[hk] at nN
   obtain⟨ms,hu⟩:=nN
   cases (show RD F w _ _ from hx)
   refine oU h (λw'=>by unfold eqGuard;cases op<;>cases ox<;>rfl) (λw'=>?_) (λw' op ho=>by rcases ho with rfl | rfl<;>rfl)
   have hq:∀d,(Op.equalIn (d+1) t (.nilIface) .nilIface).run P w'=.ok true w':=λd=>by
    simp only[Op.equalIn,Sem.run_bind,aP hu,Result.andThen];rfl
   exact hq 9999
  ·rename_i pi po hk
   rw[hk] at nN
   obtain⟨e,hu⟩:=nN
   obtain⟨b,_,rfl⟩:=(show R0 ρ F w (.ptr pi po) vx from hx)
   refine oU h (λw'=>by unfold eqGuard;cases op<;>cases ox<;>rfl) (λw'=>?_) (λw' op ho=>by rcases ho with rfl | rfl<;>rfl)
   have hq:∀d,(Op.equalIn (d+1) t (.pointer (some ⟨b,po,none⟩)) (.pointer none)).run P w'=.ok false w':=λd=>by
    simp only[Op.equalIn,Sem.run_bind,aP hu,Result.andThen];rfl
   exact hq 9999
  ·rename_i hk
   rw[hk] at nN
   obtain⟨e,hu⟩:=nN
   cases (show RD F w _ _ from hx)
   refine oU h (λw'=>by unfold eqGuard;cases op<;>cases ox<;>rfl) (λw'=>?_) (λw' op ho=>by rcases ho with rfl | rfl<;>rfl)
   have hq:∀d,(Op.equalIn (d+1) t (.pointer none) (.pointer none)).run P w'=.ok true w':=λd=>by
    simp only[Op.equalIn,Sem.run_bind,aP hu,Result.andThen];rfl
   exact hq 9999
  ·simp at h
 ·simp at h
end
def unE(ck:Bool)(op:UnOp):V->Option (V×List Prop)
 | .d (.bool b)=>match op with
  | .not=>some (vb (!b),[])
  | _=>none
 | .d (.int k n)=>match op with
  | .neg=>some (num ck k (0-n))
  | .xor=>some (.d (.int k (ou .xor k (if k.signed then -1 else k.max) n)),[])
  | _=>none
 | _=>none
def abS(H:List (Nat×Ch)):V->Option Nat
 | .own id=>match get H id with
  | some (.rows _ _ _ n _ _ _ _)=>some n
  | some (.held _ _ _ n _ _ _ _ _)=>some n
  | _=>none
 | _=>none
def parts(H:List (Nat×Ch)):V->Option (Nat×Nat×(Nat->List D))
 | .d (.sl sz n f)=>some (sz,n,f)
 | .own id=>match get H id with
  | some (.vec _ sz n f)=>some (sz,n,f)
  | _=>none
 | _=>none
def aav:List D->Int
 | [.int _ n]=>n
 | _=>0
def acL:List D->Prop
 | [.int .u8 _]=>True
 | _=>False
def bytesOf(n:Nat)(f:Nat->List D):BY:=⟨((List.range n).map λi=>UInt8.ofNat (aav (f i)).toNat).toArray⟩
def Xk(g:Cfg)(ck:Bool)(H:List (Nat×Ch))(src dst:TypeId)(x:V):Option (V×List Prop):=
 match lk g src,lk g dst with
 | some ts,some td=>match td.kind,x with
  | .int k',.d (.int _ n)=>some (num ck k' n)
  | .str,.d (.str s)=>some (vs s,[])
  | .str,.aD=>match ts.kind with
   | .slice e=>match lk g e with
    | some te=>match te.kind with
     | .int .u8=>some (vs .empty,[])
     | _=>none
    | _=>none
   | _=>none
  | .str,x=>match ts.kind with
   | .slice e=>match lk g e with
    | some te=>match te.kind,parts H x with
     | .int .u8,some (sz,n,f)=>bif Nat.beq sz 1 then some (vs (bytesOf n f),[∀i,i<n->acL (f i)]) else none
     | _,_=>none
    | _=>none
   | _=>none
  | _,_=>none
 | _,_=>none
def LX(c:Prop)[Decidable c]:D->D->D
 | .int k a,.int k' b=>bif y7 k k' then .int k (if c then a else b) else if c then .int k a else .int k' b
 | .bool a,.bool b=>.bool (if c then a else b)
 | .str a,.str b=>.str (if c then a else b)
 | .sl z n f,.sl z' n' f'=>bif Nat.beq z z' then .sl z (if c then n else n') (if c then f else f') else if c then .sl z n f else .sl z' n' f'
 | a,b=>if c then a else b
theorem vI{c:Prop}[Decidable c](h:c)(a b:D):LX c a b=a:=by
 unfold LX
 split
 ·cases hk:y7 _ _
  ·simp [h]
  ·simp [h]
 ·simp [h]
 ·simp [h]
 ·cases hk:Nat.beq _ _
  ·simp [h]
  ·simp [h]
 ·simp [h]
theorem vJ{c:Prop}[Decidable c](h:¬c)(a b:D):LX c a b=b:=by
 unfold LX
 split
 ·cases hk:y7 _ _
  ·simp [h]
  ·have:=EN hk;subst this;simp [h]
 ·simp [h]
 ·simp [h]
 ·cases hk:Nat.beq _ _
  ·simp [h]
  ·have:=agU hk;subst this;simp [h]
 ·simp [h]
def yD:List V->Nat->Option D
 | [.d a],_=>some a
 | .d a::r,i=>match yD r (i-1) with
  | some b=>some (LX (i=0) a b)
  | none=>none
 | _,_=>none
def sb(s:BY)(i:Nat):Int:=((s.data.toList.getD i 0).toNat:Int)
def acM(g:Cfg)(t:TypeId)(x i:V):Option (V×List Prop):=
 match lk g t,x,i with
 | some ti,.d (.str s),.d (.int _ n)=>match ti.kind with
  | .str=>some (.d (.int .u8 (sb s n.toNat)),[0≤n∧n<(s.size:Int)])
  | _=>none
 | some ti,.agg us,.d (.int _ n)=>match ti.kind with
  | .array k e=>match lk g e with
   | some te=>bif te.kind.flat&&(Nat.beq te.size 1&&Nat.beq k us.length) then match yD us n.toNat with
     | some d=>some (.d d,[0≤n∧n<(k:Int)])
     | none=>none
    else none
   | none=>none
  | _=>none
 | _,_,_=>none
def isz(g:Cfg)(e:TypeId)(sz:Nat):Bool:=
 match lk g e with
 | some te=>Nat.beq te.size sz
 | none=>false
def iaE(g:Cfg)(H:List (Nat×Ch))(t:TypeId)(x i:V):Option (V×List Prop):=
 match lk g t,i with
 | some ti,.d (.int _ k)=>match ti.kind,x with
  | .slice e,.d (.sl sz n f)=>bif isz g e sz then some (.gU (f k.toNat),[0≤k∧k<(n:Int)]) else none
  | .slice e,.own id=>match get H id with
   | some (.vec _ sz n _)=>bif isz g e sz then some (.bD id sz k.toNat 0,[0≤k∧k<(n:Int)]) else none
   | some (.rows _ _ _ n _ _ _ _)=>bif isz g e 1 then some (.bD id 1 k.toNat 0,[0≤k∧k<(n:Int)]) else none
   | some (.held _ _ _ n _ _ _ _ _)=>bif isz g e 1 then some (.bD id 1 k.toNat 0,[0≤k∧k<(n:Int)]) else none
   | _=>none
  | .array n e,.ptr id off=>match get H id with
   | some (.arr sz n' _)=>bif isz g e sz&&Nat.beq n n'&&Nat.beq off 0 then some (.bD id sz k.toNat 0,[0≤k∧k<(n:Int)]) else none
   | _=>none
  | .array n e,.gU ds=>match lk g e with
   | some te=>some (.gU (ds.drop (k.toNat*te.size)),[0≤k∧k<(n:Int)])
   | none=>none
  | _,_=>none
 | _,_=>none
def faE(g:Cfg)(t:TypeId)(x:V)(fld:Nat):Option (V×List Prop):=
 match lk g t with
 | some ti=>match ti.kind with
  | .struct fs _=>match fs[fld]? with
   | some (off,ty)=>bif isz g ty 0 then none else match lk g ty with
    | none=>none
    | some _=>match x with
     | .ptr id o=>some (.ptr id (o+off),[])
     | .bD id sz i o=>some (.bD id sz i (o+off),[])
     | .gU ds=>some (.gU (ds.drop off),[])
     | .d .np=>some (.d .np,[False])
     | _=>none
   | none=>none
  | _=>none
 | none=>none
def Fg:TK->Bool
 | .struct _ _ | .array _ _=>true
 | _=>false
def asV(ti:TI)(us:List V):Option V:=
 bif Fg ti.kind then
  bif Nat.beq (us.take ti.size).length ti.size then some (.agg (us.take ti.size)) else none
 else match us with
  | u::_=>some u
  | []=>none
def ldE(g:Cfg)(H:List (Nat×Ch))(t:TypeId)(x:V):Option (V×List Prop):=
 match lk g t with
 | none=>none
 | some ti=>match x with
  | .gU ds=>match asV ti (ds.map .d) with
   | some v=>some (v,[])
   | none=>none
  | .d .np=>match asV ti ti.zero with
   | some v=>some (v,[False])
   | none=>none
  | .ptr id o=>match get H id with
   | some (.box us)=>match asV ti (us.drop o) with
    | some v=>some (v,[])
    | none=>none
   | _=>none
  | .bD id sz i o=>match get H id with
   | some (.vec _ sz' n f)=>bif Nat.beq sz sz' then match asV ti (((f i).drop o).map .d) with
    | some v=>some (v,[i<n])
    | none=>none
    else none
   | some (.arr sz' n f)=>bif Nat.beq sz sz' then match asV ti (((f i).drop o).map .d) with
    | some v=>some (v,[i<n])
    | none=>none
    else none
   | some (.held _ _ _ n k u _ _ _)=>bif Nat.beq sz 1&&Nat.beq o 0 then match asV ti [u] with
    | some v=>some (v,[i=k∧i<n])
    | none=>none
    else none
   | _=>none
  | _=>none
def acN(g:Cfg)(t:TypeId)(x:V)(fld:Nat):Option (V×List Prop):=
 match lk g t,x with
 | some ti,.agg us=>match ti.kind with
  | .struct fs _=>match fs[fld]? with
   | some (off,ty)=>match lk g ty with
    | some ty'=>match asV ty' (us.drop off) with
     | some v=>some (v,[])
     | none=>none
    | none=>none
   | none=>none
  | _=>none
 | _,_=>none
def acO(g:Cfg)(H:List (Nat×Ch))(t:TypeId)(x:V):Option (V×List Prop):=
 match lk g t with
 | none=>none
 | some ti=>match ti.kind,x with
  | .str,.d (.str s)=>some (vi s.size,[])
  | .slice _,.aD=>some (vi ((0:Nat):Int),[])
  | .slice _,x=>match parts H x with
   | some (_,n,_)=>some (vi (n:Int),[])
   | none=>match abS H x with
    | some n=>some (vi (n:Int),[])
    | none=>none
  | .array n _,_=>some (vi (n:Int),[])
  | _,_=>none
def aaw(n:Nat)(lo hi:Option V):Option (Int×Int×List Prop):=
 match lo,hi with
 | none,none=>some (0,(n:Int),[])
 | some (.d (.int _ l)),none=>some (l,(n:Int),[0≤l∧l≤(n:Int)])
 | none,some (.d (.int _ h))=>some (0,h,[0≤h∧h≤(n:Int)])
 | some (.d (.int _ l)),some (.d (.int _ h))=>some (l,h,[0≤l∧l≤h∧h≤(n:Int)])
 | _,_=>none
def acP(g:Cfg)(t:TypeId)(x:V)(lo hi:Option V):Option (V×List Prop):=
 match lk g t with
 | none=>none
 | some ti=>match ti.kind,x with
  | .str,.d (.str s)=>match aaw s.size lo hi with
   | some (l,h,p)=>some (vs (s.extract l.toNat h.toNat),p)
   | none=>none
  | .slice e,.d (.sl sz n f)=>bif isz g e sz then match aaw n lo hi with
   | some (l,h,p)=>some (.d (.sl sz (h.toNat-l.toNat) (λk=>f (l.toNat+k))),p)
   | none=>none
   else none
  | _,_=>none
def Xl(g:Cfg)(t:TypeId)(x:V)(lo hi:Option V)(mx:V):Option (V×List Prop):=
 match lk g t with
 | none=>none
 | some ti=>match ti.kind,x,lo,hi,mx with
  | .slice e,.d (.sl sz n f),none,some (.d (.int _ h)),.d (.int _ m)=>bif isz g e sz then some (.d (.sl sz h.toNat f),[0≤h∧h≤m∧m≤(n:Int)]) else none
  | _,_,_,_,_=>none
def leaves:List V->Bool
 | []=>true
 | v::r=>v.leaf&&leaves r
def evs(L:List (Nat×V))(q:List (Nat×Bool)):List Operand->Option (List V)
 | []=>some []
 | x::r=>match ev L q x with
  | none=>none
  | some v=>match evs L q r with
   | none=>none
   | some us=>some (v::us)
def evo(L:List (Nat×V))(q:List (Nat×Bool)):Option Operand->Option (Option V)
 | none=>some none
 | some x=>match ev L q x with
  | none=>none
  | some v=>some (some v)
def acQ(a b:V):Option (V×List Prop):=
 match a,b with
 | .d (.int k x),.d (.int _ y)=>some (.d (.int k (if y > x then y else x)),[])
 | _,_=>none
def acR(a b:V):Option (V×List Prop):=
 match a,b with
 | .d (.int k x),.d (.int _ y)=>some (.d (.int k (if y<x then y else x)),[])
 | _,_=>none
def isTrue:Operand->Bool
 | .const (.bool b)=>b
 | _=>false
def isFalse:Operand->Bool
 | .const (.bool b)=>!b
 | _=>false
def pathOf(L:List (Nat×V))(t:Nat):List (Nat×Bool):=
 match get L t with
 | some (.g p _)=>p
 | _=>[]
def Xm(L:List (Nat×V))(q:List (Nat×Bool))(c a b:Operand):Option (V×List Prop):=
 match c with
 | .tmp t=>match ev L q c with
  | some (.d (.bool x))=>
   bif isTrue a then match ev L (pathOf L t++[(t,false)]) b with
    | some (.d (.bool y))=>some (vb (x||y),[])
    | _=>none
   else bif isFalse b then match ev L (pathOf L t++[(t,true)]) a with
    | some (.d (.bool y))=>some (vb (x&&y),[])
    | _=>none
   else none
  | _=>none
 | _=>none
def Uo:V->Option V
 | .d d=>some (.d d)
 | .aD=>some .aD
 | .own i=>some (.own i)
 | .ptr i o=>some (.ptr i o)
 | .fn f us=>some (.fn f us)
 | _=>none
def setAt:List V->Nat->V->Option (List V)
 | [],_,_=>none
 | _::r,0,v=>some (v::r)
 | u::r,n+1,v=>match setAt r n v with
  | some r'=>some (u::r')
  | none=>none
def Af(g:Cfg):List (Nat×TypeId)->Option (List (Nat×Nat))
 | []=>some []
 | (o,ft)::r=>match lk g ft,Af g r with
  | some ti,some l=>some ((o,ti.size)::l)
  | _,_=>none
def setMany:List V->Nat->List V->Option (List V)
 | us,_,[]=>some us
 | us,off,v::vs=>match setAt us off v with
  | some us'=>setMany us' (off+1) vs
  | none=>none
def aax(us:List V)(off n:Nat)(v:V):Option (List V):=
 match v with
 | .agg vs=>bif Nat.beq n vs.length&&Nat.ble 1 n then setMany us off vs else none
 | v=>match Uo v,setAt us off v with
  | some _,some us'=>bif Nat.beq n 1 then some us' else none
  | _,_=>none
def BS(L:List (Nat×V))(q:List (Nat×Bool))(pl:List (Nat×Nat)):List V->List (Nat×Operand)->Option (List V)
 | us,[]=>some us
 | us,(i,x)::ps=>match pl[i]?,ev L q x with
  | some (off,n),some v=>match aax us off n v with
   | some us'=>BS L q pl us' ps
   | none=>none
  | _,_=>none
def Jf:Nat->Nat->List (Nat×Nat)
 | _,0=>[]
 | i,n+1=>(i,1)::Jf (i+1) n
def acS(g:Cfg)(L:List (Nat×V))(q:List (Nat×Bool))(t:TypeId)(ps:List (Nat×Operand)):Option (V×List Prop):=
 match lk g t with
 | some ti=>match ti.kind with
  | .struct fs _=>match Af g fs with
   | some pl=>match BS L q pl ti.zero ps with
    | some us=>some (.agg us,[])
    | none=>none
   | none=>none
  | .array n e=>match lk g e with
   | some te=>bif Nat.beq te.size 1 then match BS L q (Jf 0 n) (List.replicate n ti.zero).flatten ps with
    | some us=>some (.agg us,[])
    | none=>none
    else none
   | none=>none
  | _=>none
 | none=>none
def gV:List V->Option (List (IntKind×Int))
 | []=>some []
 | .d (.int k n)::r=>match gV r with
  | some l=>some ((k,n)::l)
  | none=>none
 | _=>none
def acT(g:Cfg)(t:TypeId)(u:V):Option (V×List Prop):=
 match lk g t with
 | some ti=>match ti.kind,u with
  | .struct _ _,.agg us=>match gV us with
   | some ns=>some (.d (.ifc t ns),[])
   | none=>none
  | _,_=>none
 | none=>none
def acU(g:Cfg)(t:TypeId)(u:V):Option (V×List Prop):=
 match lk g t with
 | some ti=>match ti.kind,u with
  | .struct _ _,.d (.ifc t' ns)=>bif Nat.beq t' t then some (.tup [.agg (ns.map λx=>.d (.int x.1 x.2)),vb true],[]) else none
  | _,_=>none
 | none=>none
def Sg:Key->Key->Bool
 | .inl _,.inl _=>true
 | .inr _,.inr _=>true
 | _,_=>false
def mW(k:Key):List (Key×V)->Bool
 | []=>true
 | (a,_)::r=>Sg k a&&mW k r
def keyOf:TK->V->Option Key
 | .str,.d (.str s)=>some (.inl s.data.toList)
 | .int .u8,.d (.int .u8 n)=>some (.inr n)
 | _,_=>none
def Uq(k:Key):List (Key×V)->Int
 | []=>0
 | (a,.d (.int _ n))::r=>if qJ k a then n else Uq k r
 | _::r=>Uq k r
def allI:List (Key×V)->Bool
 | []=>true
 | (_,.d (.int .i64 _))::r=>allI r
 | _=>false
def Xn(g:Cfg)(H:List (Nat×Ch))(t:TypeId)(m k:V):Option (V×List Prop):=
 match lk g t,m,k with
 | some ti,.own id,.d (.str s)=>match ti.kind,get H id with
  | .map kt et,some (.tbl es)=>match lk g kt,lk g et with
   | some tk,some te=>match tk.kind,te.kind,te.zero with
    | .str,.int .i64,[.d (.int .i64 0)]=>bif allI es&&mW (.inl s.data.toList) es then some (vi (Uq (.inl s.data.toList) es),[]) else none
    | _,_,_=>none
   | _,_=>none
  | _,_=>none
 | _,_,_=>none
def vC:Nat->List BY->BY->Option Nat
 | _,[],_=>none
 | i,a::r,s=>if a.data.toList=s.data.toList then some i else vC (i+1) r s
def dN(l:List BY)(s:BY):Int:=((vC 0 l s).getD 0:Nat)
def posB(l:List BY)(s:BY):Bool:=(vC 0 l s).isSome
def posOf(H:List (Nat×Ch)):V->Option (List BY)
 | .d (.mp l)=>some l
 | .own id=>match get H id with
  | some (.pos l)=>some l
  | _=>none
 | _=>none
def Si(g:Cfg)(H:List (Nat×Ch))(t:TypeId)(m k:V)(c:Bool):Option (V×List Prop):=
 match lk g t,posOf H m,k with
 | some ti,some l,.d (.str s)=>match ti.kind with
  | .map kt et=>match lk g kt,lk g et with
   | some tk,some te=>match tk.kind,te.kind,te.zero with
    | .str,.int .i64,[.d (.int .i64 0)]=>match c with
     | true=>some (.tup [vi (dN l s),vb (posB l s)],[])
     | false=>some (vi (dN l s),[])
    | _,_,_=>none
   | _,_=>none
  | _=>none
 | _,_,_=>none
def aay(g:Cfg)(H:List (Nat×Ch))(t:TypeId)(m:V):Option (V×List Prop):=
 match lk g t,posOf H m with
 | some ti,some l=>match ti.kind with
  | .map _ _=>some (vi (l.length:Int),[])
  | _=>none
 | _,_=>none
def Xo(g:Cfg)(H:List (Nat×Ch))(t:TypeId)(m k:V)(c:Bool):Option (V×List Prop):=
 match c with
 | false=>match Xn g H t m k with
  | some r=>some r
  | none=>Si g H t m k false
 | true=>Si g H t m k true
def aes:V->Option (V×List Prop)
 | .ptr i o=>some (.ptr i o,[])
 | .bD i z k o=>some (.bD i z k o,[])
 | .gU ds=>some (.gU ds,[])
 | .d .np=>some (.d .np,[False])
 | _=>none
def rdE(g:Cfg)(ck:Bool)(s:St)(q:List (Nat×Bool)):Op->Option (V×List Prop)
 | .move x | .assign x=>match ev s.L q x with
  | some v=>some (v,[])
  | none=>none
 | .pick c a b=>Xm s.L q c a b
 | .binOp op t x y _=>match Xi y with
  | some k=>match ev s.L q x with
   | some u=>acK g op t k u
   | none=>none
  | none=>match ev s.L q x,ev s.L q y with
   | some u,some v=>acI g ck op t u v
   | _,_=>none
 | .unOp op _ x=>match ev s.L q x with
  | some u=>unE ck op u
  | none=>none
 | .convert src dst x=>match ev s.L q x with
  | some u=>Xk g ck s.H src dst u
  | none=>none
 | .index t x i=>match ev s.L q x,ev s.L q i with
  | some u,some v=>acM g t u v
  | _,_=>none
 | .indexAddr t x i=>match ev s.L q x,ev s.L q i with
  | some u,some v=>iaE g s.H t u v
  | _,_=>none
 | .fieldAddr t x f=>match ev s.L q x with
  | some u=>faE g t u f
  | none=>none
 | .field t x f=>match ev s.L q x with
  | some u=>acN g t u f
  | none=>none
 | .load t x=>match ev s.L q x with
  | some u=>ldE g s.H t u
  | none=>none
 | .slice t x lo hi none=>match ev s.L q x,evo s.L q lo,evo s.L q hi with
  | some u,some l,some h=>acP g t u l h
  | _,_,_=>none
 | .slice t x lo hi (some mx)=>match ev s.L q x,evo s.L q lo,evo s.L q hi,ev s.L q mx with
  | some u,some l,some h,some m=>Xl g t u l h m
  | _,_,_,_=>none
 | .extract x i=>match ev s.L q x with
  | some (.tup us)=>match us[i]? with
   | some v=>some (v,[])
   | none=>none
  | _=>none
 | .makeFunc (.func f) first caps=>match first.toList,evs s.L q caps.toList with
  | [],some us=>bif leaves us then some (.fn f us,[]) else none
  | _,_=>none
 | .call c=>match c.callee with
  | .builtin b=>match b,evs s.L q c.args.toList,c.argTypes.toList with
   | .len,some [u],[t]=>match acO g s.H t u with
    | some r=>some r
    | none=>aay g s.H t u
   | .max,some [u,v],_=>acQ u v
   | .min,some [u,v],_=>acR u v
   | _,_,_=>none
  | _=>none
 | .build t ps=>acS g s.L q t ps.toList
 | .nilCheck x=>match ev s.L q x with
  | some u=>aes u
  | none=>none
 | .makeInterface t x=>match ev s.L q x with
  | some u=>acT g t u
  | none=>none
 | .lookup t m k c=>match ev s.L q m,ev s.L q k with
  | some u,some v=>Xo g s.H t u v c
  | _,_=>none
 | .typeAssert x _ t true=>match ev s.L q x with
  | some u=>acU g t u
  | none=>none
 | _=>none
end Go.Sx
