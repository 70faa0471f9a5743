/-
  Parts of the proof: Fw25, Fw36, Fw46, Pl1, Fs, Dn20, Dn21, TwS, Dn20b, Dn22, Dn24a, Dn24, Tw24, Ok24: the framework (Fw), pure forms (Dn), plain laws (Pl, Th), calls of functions (Ok).
-/
import Derived.ProofKit
import Derived.Handed
import Derived.KernelRfl
import Derived.Lib.SlicesCompact
import Derived.RangeFuncBox
import Derived.RangeFuncLeaves
import Derived.Shelf.Abstract
import Derived.WalkKit
import Derived.OwnWalkIn
import Derived.TacticsInMore
import Derived.LoopNIn
import Derived.LoopIn
import Derived.Maps.AppendAt
import Derived.Shelf.Slices.CompactI
import Derived.Lib.OwnBridge
import Derived.Test.YtkhcdgkdpjahpaaGreatDoorProg
import Derived.Test.YtkhcdgkdpjahpaaGreatDoorB43216e71

set_option linter.all false
noncomputable section
namespace Go.i9
variable{a:Nat}{b:Value}{c:Type}{d:World}{e:List ResultVar}{f:c5->Nat->Prop}{g:List fC}{h:List ag}{i:Int}{j:Nat->Prop}
section
def lF:Nat->(f:List fC)->fI f->List (Nat×al)
 |_,[],_=>[]
 |k,.v g::b,a=>(k,.val g a.1)::lF (k+1) b a.2
 |k,.m _::b,a=>(k,.ref k [])::lF (k+1) b a.2
 |k,.o _::b,a=>(k,.ref k [])::lF (k+1) b a.2
 |k,.c e h::b,a=>(k,.dg e ((hm h a.1).map λd=>.val d.1 d.2))::lF (k+1) b a.2
 |k,.n::b,a=>(k,.bP (.slice none 0 0))::lF (k+1) b a.2
 |k,.w _::b,a=>(k,.view k [] a.1.2.1 a.1.2.2)::lF (k+1) b a.2
 |k,.s _ _::b,a=>lF (k+1) b a.2
def lG:Nat->(e:List fC)->fI e->List (Nat×aC)
 |_,[],_=>[]
 |k,.v _::b,a=>lG (k+1) b a.2
 |k,.m d::b,a=>(k,⟨d,a.1⟩)::lG (k+1) b a.2
 |k,.o d::b,a=>(k,⟨d,a.1⟩)::lG (k+1) b a.2
 |k,.c _ _::b,a=>lG (k+1) b a.2
 |k,.n::b,a=>lG (k+1) b a.2
 |k,.w f::b,a=>(k,⟨.osl f,a.1.1⟩)::lG (k+1) b a.2
 |k,.s _ _::b,a=>lG (k+1) b a.2
def ix:Nat->List fC->cY
 |_,[]=>[]
 |k,.m _::a=>k::ix (k+1) a
 |k,.v _::a=>ix (k+1) a
 |k,.o _::a=>ix (k+1) a
 |k,.c _ _::a=>ix (k+1) a
 |k,.n::a=>ix (k+1) a
 |k,.w _::a=>k::ix (k+1) a
 |k,.s _ _::a=>ix (k+1) a
theorem Cw {r:Type}:∀{k:Nat} {ps:List fC} {a:fI ps} {b:hn ps r},h1 k (eP ps a b)=lF k ps a/\iy k (eP ps a b)=lG k ps a/\fV k (eP ps a b)=ix k ps/\(eP ps a b).length=ps.length
 |k,[],a,b=>⟨rfl,rfl,rfl,rfl⟩
 |k,i::h,a,b=>by
  have g:=λa b=>Cw (r:=r) (k:=k+1) (ps:=h) (a:=a) (b:=b);cases i
  case m=>
   obtain⟨c,d,e,f⟩:=g a.2 b.2;simp only[eP,h1,iy,fV,lF,lG,ix,hU,c,d,e,f,and_self]
  case w=>
   obtain⟨c,d,e,f⟩:=g a.2 b.2;simp only[eP,h1,iy,fV,lF,lG,ix,hU,c,d,e,f,and_self]
  all_goals obtain⟨c,d,e,f⟩:=g a.2 b;simp only[eP,h1,iy,fV,lF,lG,ix,hU,c,d,e,f,and_self]
def BD (tt:List (TypeId×ag)) (e:aJ) (b:ag):ResultVar->Option (b.den×cY)
 |.tmp k=>match gt e.g k with
  |.val _ l=>(gA b l).bind λa=>some (a,[])
  |.bP f=>bif mY b f then(hf b f.cells.toList).bind λa=>some (a,[]) else none
  |.ref id d=>match ao e.h id with
   |some c=>(gg c.1 c.2 d b).bind λa=>some (a,[id])
   |none=>none
  |_=>none
 |.cell j i=>match ao tt i with
  |some m=>bif a2 m b then match gt e.g j with
   |.ref id d=>match ao e.h id with
    |some c=>match dI c.1 d with
     |some (.optr _)=>(gg c.1 c.2 (d++[.deref]) b).bind λa=>some (a,[id])
     |_=>none
    |none=>none
   |_=>none else none
  |none=>none
def BC (tt:List (TypeId×ag)) (c:aJ):List ResultVar->(a:List ag)->Option (ks a×cY)
 |[],[]=>some ((),[])
 |r::f,e::a=>bif e.eu then(BD tt c e r).bind λd=>(BC tt c f a).map λb=>((d.1,b.1),d.2++b.2) else none
 |_,_=>none
theorem Zh {E:dW} {l:aJ} {d:ag} {e:ResultVar} {i:d.den×cY} (a:BD E.tt l d e=some i):pX E.P l ⟨d,i.1⟩ e i.2:=by
 cases e with
 |tmp e=>
  simp only[BD] at a;simp only[pX];split at a
  ·rename_i v u b;obtain⟨k,c,a⟩:=bZ.1 a;cases a;rw[b];exact⟨iR c,rfl⟩
  ·rename_i r b;cases f:mY d r with
   |false=>rw[f] at a;cases a
   |true=>
   rw[f] at a;obtain⟨k,c,a⟩:=bZ.1 a;cases a;rw[b];exact⟨c,mY.ok f,rfl⟩
  ·rename_i id q b;split at a
   case h_2=>cases a
   rename_i j h;obtain⟨k,c,a⟩:=bZ.1 a;cases a;rw[b];exact⟨rfl,j,h,g3 c⟩
  cases a
 |cell t n=>
  simp only[BD] at a;simp only[pX];split at a
  case h_2=>cases a
  rename_i m o;cases g:a2 m d with
  |false=>rw[g] at a;cases a
  |true=>
  rw[g] at a;refine⟨(E.ok n m o).lay g,?_⟩;simp only[cond_true] at a;split at a
  case h_2=>cases a
  rename_i id q b;split at a
  case h_2=>cases a
  rename_i j h;split at a
  case h_2=>cases a
  rename_i s p;obtain⟨k,c,a⟩:=bZ.1 a;cases a;rw[b];exact⟨rfl,j,s,h,p,g3 c⟩
theorem Lj {E:dW} {f:aJ}:∀{e:List ResultVar} {c:List ag} {b:ks c×cY},BC E.tt f e c=some b->rz E.P f e (hm c b.1) b.2
 |[],[],b,a=>by cases a;rfl
 |[],_::_,b,a=>by cases a
 |_::_,[],b,a=>by cases a
 |r::e,k::c,b,a=>by
  simp only[BC] at a;cases d:k.eu with
  |false=>rw[d] at a;cases a
  |true=>
  rw[d] at a;simp only[cond_true] at a;obtain⟨j,h,a⟩:=bZ.1 a;obtain⟨i,g,rfl⟩:=dZ.1 a;exact⟨d,j.2,i.2,rfl,Zh h,Lj g⟩
def ng (
 st:aJ) {t:Type} (d:Option t):Nat->(r:List fC)->fI r->Option (hn r t)
 |_,[],_=>d
 |k,.v _::b,a=>ng st d (k+1) b a.2
 |k,.o _::b,a=>ng st d (k+1) b a.2
 |k,.c _ _::b,a=>ng st d (k+1) b a.2
 |k,.n::b,a=>ng st d (k+1) b a.2
 |k,.s _ _::b,a=>ng st d (k+1) b a.2
 |k,.m l::b,a=>bif p6 (.ref k []) (gt st.g k)&&(l.eu&&pF l) then match ao st.h k with
  |some j=>match gA l j.2 with
   |some e=>(ng st d (k+1) b a.2).map λi=>(e,i)
   |none=>none
  |none=>none else none
 |k,.w f::b,a=>match gt st.g k with
  |.view u [] q p=>bif Nat.beq k u&&f.eu then match ao st.h k with
   |some j=>match gA (.osl f) j.2 with
    |some e=>bif Nat.beq q a.1.2.1&&(Nat.beq p a.1.2.2&&(Nat.beq (List.length (α:=f.den) e) (List.length (α:=f.den) a.1.1)&&Nat.blt q p)) then(ng st d (k+1) b a.2).map λi=>(e,i) else none
    |none=>none
   |none=>none else none
  |_=>none
theorem qY {y:aJ} {C:Type} {B:Option C}:∀{k:Nat} {ps:List fC} {a:fI ps} {e:hn ps C},ng y B k ps a=some e->nI y k (eP ps a e)/\B=some (gL ps e)
 |k,[],a,e,b=>⟨trivial,b⟩
 |k,.v _::f,a,e,b=>qY (ps:=f) b
 |k,.o _::f,a,e,b=>qY (ps:=f) b
 |k,.c _ _::f,a,e,b=>qY (ps:=f) b
 |k,.n::f,a,e,b=>qY (ps:=f) b
 |k,.s _ _::f,a,e,b=>qY (ps:=f) b
 |k,.m E::f,a,e,b=>by
  simp only[ng] at b;cases d:(p6 (.ref k []) (gt y.g k)&&(E.eu&&pF E)) with
  |false=>rw[d] at b;cases b
  |true=>
  rw[d] at b;simp only[bd] at d;simp only[cond_true] at b;split at b
  case h_2=>cases b
  rename_i J t;split at b
  case h_2=>cases b
  rename_i D u;obtain⟨I,r,rfl⟩:=dZ.1 b;obtain⟨l,p⟩:=qY (a:=a.2) r;refine⟨⟨⟨(p6.ok d.1).symm,?_,d.2.1,d.2.2⟩,l⟩,p⟩;rw[t];exact congrArg some (iR u)
 |k,.w z::f,a,e,b=>by
  simp only[ng] at b;split at b
  case h_2=>cases b
  rename_i H x q G;cases d:(Nat.beq k H&&z.eu) with
  |false=>rw[d] at b;cases b
  |true=>
  rw[d] at b;simp only[bd] at d;obtain rfl:=er d.1;simp only[cond_true] at b;split at b
  case h_2=>cases b
  rename_i J t;split at b
  case h_2=>cases b
  rename_i D u;cases h:(Nat.beq x a.1.2.1&&(Nat.beq q a.1.2.2&&(Nat.beq (List.length (α:=z.den) D) (List.length (α:=z.den) a.1.1)&&Nat.blt x q))) with
  |false=>rw[h] at b;cases b
  |true=>
  rw[h] at b;simp only[bd] at h;obtain⟨i,j,F,A⟩:=h;have i:=er i;have j:=er j;have A:x<q:=eM A;obtain⟨I,r,rfl⟩:=dZ.1 b;obtain⟨l,p⟩:=qY (a:=a.2) r;refine⟨⟨⟨by rw[G,i,j],?_,⟨d.2,U⟩,er F⟩,l⟩,p⟩;rw[t];exact congrArg some (iR u)
def AC (tt:List (TypeId×ag)) (a:List fC) (f:List ResultVar) (d:List ag) (e:fI a) (c:aJ):Option (hn a (ks d)):=
 match BC tt c f d with
 |some b=>bif hM (ix 0 a++b.2) then ng c (some b.1) 0 a e else none
 |none=>none
theorem HS {E:dW} {m:aJ} {d:fI g} {f:hn g (ks h)} {i:Exit} (p:i=.normal\/i=.ret) (c:AC E.tt g e h d m=some f):FM E.P (eP g d f) e (hm h (gL g f)) i m:=by
 unfold AC at c;split at c
 case h_2=>cases c
 rename_i l q;cases j:hM (ix 0 g++l.2) with
 |false=>rw[j] at c;cases c
 |true=>
 rw[j] at c;simp only[cond_true] at c;obtain⟨n,o⟩:=qY (a:=d) c;refine⟨p,l.2,?_,?_,n⟩
 ·rw[<-ec o];exact Lj q
 rw[(Cw (k:=0) (ps:=g) (a:=d) (b:=f)).2.2.1];exact j
def HT (tt:List (TypeId×ag)) (a:List fC) (e:List ResultVar) (c:List ag) (d:fI a):Exit->aJ->Option (hn a (ks c))
 |.normal,b=>AC tt a e c d b
 |.ret,b=>AC tt a e c d b
 |_,_=>none
def AS (c:fq) (e:kX) (f:Code) (a:List fC) (g:List ResultVar) (d:List ag) (b:fI a):Option (hn a (ks d)):=
 gC c e f ⟨lF 0 a b,lG 0 a b⟩ _ (HT c.tt a g d b)
section
variable {E:dW}
theorem aA.JB {i:Nat} {d:Func} {j:fI g->Option (hn g (ks h))} (n:List (Nat×aB)) (s:List (Nat×ag)) (o:c0) (x:kX) (aE:cR) (I:∀w∈aE,FL E.P w) (H:E.P.funcs[i]?=some d) (q:d.body.isSome=true) (M:d.results=e.toArray) (L:Nat.ble g.length d.ntmps=true) (G:∀(t:cQ) (u:World),(callFunc i t).run E.P u=.ok (.enter i t) u) (N:∀O∈n,aA E O.2) (C:∀f,AS ⟨E.tt,n,s,d.ntmps,ix 0 g++mF (ip 0 g),[],o,ip 0 g,aE,[],E.glob⟩ x (d.body.getD .skip) g e h f=j f):aA E ⟨i,g,h,j⟩:=by
 refine⟨G,λf v p=>?_⟩;rw[show(aB.mk i g h j).u2 f=j f from rfl,<-C f] at p;obtain⟨aj,z,A,B⟩:=Cw (k:=0) (ps:=g) (a:=f) (b:=v);refine pI.V0 H (c:=d.body.getD .skip) (by cases F:d.body with|none=>rw[F] at q;cases q|some Q=>rfl) M (by rw[B];exact eM L) ?_;intro R D l K r J;rw[aj,z];rw[xT] at l r;rw[A] at l;refine kM (ic:=⟨E.tt,n,s,d.ntmps,ix 0 g++mF (ip 0 g),[],o,ip 0 g,aE,[],E.glob⟩) ⟨rfl,D.symm,l.symm,⟨N,r,I,J,rfl⟩,nC.nil K⟩ p ?_;intro y S m;cases y with
 |normal=>exact HS (.inl rfl) m
 |ret=>exact HS (.inr rfl) m
 |_=>cases m
theorem aA.of {fn:Func} {rs:List ResultVar} {j:fI g->Option (hn g (ks h))} (c:List (Nat×aB)) (i:List (Nat×ag)) (f:c0) (e:kX) (o:E.P.funcs[a]?=some fn) (m:fn.body.isSome=true) (q:fn.results=rs.toArray) (p:Nat.ble g.length fn.ntmps=true) (n:∀(k:cQ) (l:World),(callFunc a k).run E.P l=.ok (.enter a k) l) (r:∀s∈c,aA E s.2) (b:∀d,AS ⟨E.tt,c,i,fn.ntmps,ix 0 g++mF (ip 0 g),[],f,ip 0 g,[],[],E.glob⟩ e (fn.body.getD .skip) g rs h d=j d):aA E ⟨a,g,h,j⟩:=
 aA.JB c i f e [] (λ_ b=>by cases b) o m q p n r b
def BI:Code->Code
 |.seq a _=>a
 |c=>c
def LP:Code->Code
 |.seq _ a=>a
 |c=>c
def sU (a:Nat):Code->Option (Array Oper)
 |.region d e _=>if d=a then some e else none
 |.seq b c=>(sU a b).orElse λ_=>sU a c
 |.cond _ b c=>(sU a b).orElse λ_=>sU a c
 |.block _ b=>sU a b
 |.loop b=>sU a b
 |_=>none
theorem DG {b:fq} {k:Type} {c:Array Oper} {f:cY} {d:aJ->Option k}:∀(j:cY) (g:aJ),jr b c (j++f) g d=jr b c j g λa=>jr b c f a d
 |[],g=>rfl
 |i::e,g=>by
  have h:(λa=>jr b c (e++f) a d)=λa=>jr b c e a λa=>jr b c f a d:=funext λa=>DG e a;simp only[jd,jr];split
  ·rfl
  split
  ·rw[h]
  simp only[h,DG e]
theorem T6 {b:Program} {tt:List (TypeId×ag)} (i:∀c f,ao tt c=some f->dF b f c) {a:rD} {S:TypeId} (g:b.underlying a.T=some (.array a.xs.length S)) (h:ao tt S=some (.int a.k)):∀e∈[a],F8 b e:=λe d=>by rw[dP] at d;subst d;exact⟨S,g,i _ _ h⟩
theorem Ma:∀b∈([]:List (Nat×aB)),aA E b.2:=λ_ a=>by cases a
theorem aav {d:aB} {e:List (Nat×aB)} (f:aA E d) (g:∀b∈e,aA E b.2):∀b∈(a,d)::e,aA E b.2:=λb c=>by
 rcases dh.1 c with rfl|c
 ·exact f
 exact g b c
end
def s6:Value->Value->Bool
 |.int c a,.int d b=>if c=d/\a=b then true else false
 |.bool a,.bool b=>a==b
 |.string a,.string b=>a.data.toList.isEmpty&&b.data.toList.isEmpty
 |.slice none 0 0,.slice none 0 0=>true
 |.map none,.map none=>true
 |.pointer none,.pointer none=>true
 |_,_=>false
theorem GO {a:ByteArray} (c:a.data.toList.isEmpty=true):a=ByteArray.empty:=by
 cases a with|mk b=>cases b with|mk d=>cases d with
  |nil=>rfl
  |cons=>cases c
theorem s6.ok {c:Value} (a:s6 b c=true):b=c:=by
 unfold s6 at a;split at a
 ·split at a
  ·rename_i d;obtain⟨rfl,rfl⟩:=d;rfl
  cases a
 ·rw[beq_iff_eq.1 a]
 ·simp only[bd] at a;rw[GO a.1,GO a.2]
 ·rfl
 ·rfl
 ·rfl
 cases a
def s7:cS->cS->Bool
 |[],[]=>true
 |a::c,b::d=>s6 a b&&s7 c d
 |_,_=>false
theorem s7.ok:∀{c d:cS},s7 c d=true->c=d
 |[],[],_=>rfl
 |[],_::_,b=>by cases b
 |_::_,[],b=>by cases b
 |a::c,e::d,b=>by simp only[s7,bd] at b;rw[s6.ok b.1,s7.ok b.2]
def ij (b:Program) (c:TypeId) (d:Nat) (f:Value):Bool:=match b.info? c with
 |some a=>Nat.beq a.size 1&&Nat.ble a.bytes d&&(match a.zero with|some e=>s6 e f|none=>false)
 |none=>false
theorem ij.ok {d:Program} {e:TypeId} {f:Nat} {g:Value} (b:ij d e f g=true):∃a,d.info? e=some a/\a.size=1/\a.bytes<=f/\a.zero=some g:=by
 unfold ij at b;split at b
 case h_2=>cases b
 rename_i a j;simp only[bd] at b;obtain⟨⟨h,i⟩,c⟩:=b;split at c
 case h_2=>cases c
 rename_i l k;exact⟨a,j,er h,eM i,by rw[k,s6.ok c]⟩
mutual
def gp (a:Program):ag->TypeId->Bool
 |.int g,b=>ij a b 24 (.int g 0)&&(match a.underlying b with|some (.int j)=>if j=g then true else false|_=>false)
 |.bool,b=>ij a b 24 (.bool false)&&(match a.underlying b with|some .bool=>true|_=>false)
 |.str,b=>ij a b 24 (.string ByteArray.empty)&&(match a.underlying b with|some .string=>true|_=>false)
 |.a7 _ c,b=>ij a b 24 (.slice none 0 0)&&(match a.underlying b with|some (.slice d)=>gp a c d|_=>false)
 |.osl c,b=>ij a b 24 (.slice none 0 0)&&(match a.underlying b with|some (.slice d)=>gp a c d|_=>false)
 |.ptr _ c,b=>ij a b 24 (.pointer none)&&(match a.underlying b with|some (.pointer d)=>gp a c d|_=>false)
 |.optr c,b=>ij a b 24 (.pointer none)&&(match a.underlying b with|some (.pointer d)=>gp a c d|_=>false)
 |.mp c,b=>ij a b 24 (.map none)&&(match a.underlying b with|some (.map e d)=>(match a.underlying e with|some (.int .i64)=>gp a c d|_=>false)|_=>false)
 |.dC _ c,b=>ij a b 24 (.map none)&&(match a.underlying b with|some (.map e d)=>(match a.underlying e with|some (.int .i64)=>gp a c d|_=>false)|_=>false)
 |.st c,b=>Nat.blt 0 c.size&&match a.info? b with
  |some f=>Nat.beq f.size c.size&&Nat.ble f.bytes (24*c.size)&&(match f.zero with
   |some (.agg h)=>Nat.beq h.size c.size&&(match a.underlying b with|some (.struct i)=>qB a c i.toList 0 h.toList|_=>false)
   |_=>false)
  |none=>false
 |_,_=>false
def qB (c:Program):ag->List Field->Nat->cS->Bool
 |.pr a f,d::h,e,b=>Nat.beq d.offset e&&gp c a d.type&&Nat.blt 0 a.size&&(match c.info? d.type with|some g=>(match g.zero with|some i=>s7 (b.take a.size) i.cells.toList|none=>false)|none=>false)&&qB c f h (e+a.size) (b.drop a.size)
 |.nil,[],_,b=>b.isEmpty
 |_,_,_,_=>false
end
mutual
theorem gp.ok {n:Program}:∀{o:ag} {i:TypeId},gp n o i=true->dF n o i
 |.int w,i,a=>by
  simp only[gp,bd] at a;obtain⟨c,b⟩:=a;obtain⟨e,ar,f,g,h⟩:=ij.ok c;split at b
  ·rename_i x d;split at b
   ·rename_i p;subst p;exact⟨e,ar,f,g,h,d⟩
   cases b
  cases b
 |.bool,i,a=>by
  simp only[gp,bd] at a;obtain⟨c,b⟩:=a;obtain⟨e,ar,f,g,h⟩:=ij.ok c;split at b
  ·rename_i d;exact⟨e,ar,f,g,h,d⟩
  cases b
 |.str,i,a=>by
  simp only[gp,bd] at a;obtain⟨c,b⟩:=a;obtain⟨e,ar,f,g,h⟩:=ij.ok c;split at b
  ·rename_i d;exact⟨e,ar,f,g,h,d⟩
  cases b
 |.a7 _ k,i,a=>by
  simp only[gp,bd] at a;obtain⟨c,b⟩:=a;obtain⟨e,ar,f,g,h⟩:=ij.ok c;split at b
  ·rename_i j d;exact⟨e,j,ar,f,g,h,d,gp.ok b⟩
  cases b
 |.osl k,i,a=>by
  simp only[gp,bd] at a;obtain⟨c,b⟩:=a;obtain⟨e,ar,f,g,h⟩:=ij.ok c;split at b
  ·rename_i j d;exact⟨e,j,ar,f,g,h,d,gp.ok b⟩
  cases b
 |.ptr _ k,i,a=>by
  simp only[gp,bd] at a;obtain⟨c,b⟩:=a;obtain⟨e,ar,f,g,h⟩:=ij.ok c;split at b
  ·rename_i j d;exact⟨e,j,ar,f,g,h,d,gp.ok b⟩
  cases b
 |.optr k,i,a=>by
  simp only[gp,bd] at a;obtain⟨c,b⟩:=a;obtain⟨e,ar,f,g,h⟩:=ij.ok c;split at b
  ·rename_i j d;exact⟨e,j,ar,f,g,h,d,gp.ok b⟩
  cases b
 |.mp k,i,a=>by
  simp only[gp,bd] at a;obtain⟨c,b⟩:=a;obtain⟨e,ar,f,g,h⟩:=ij.ok c;split at b
  ·rename_i l j d;split at b
   ·rename_i m;exact⟨e,l,j,ar,f,g,h,d,m,gp.ok b⟩
   cases b
  cases b
 |.dC _ k,i,a=>by
  simp only[gp,bd] at a;obtain⟨c,b⟩:=a;obtain⟨e,ar,f,g,h⟩:=ij.ok c;split at b
  ·rename_i l j d;split at b
   ·rename_i m;exact⟨e,l,j,ar,f,g,h,d,m,gp.ok b⟩
   cases b
  cases b
 |.st k,i,a=>by
  simp only[gp,bd] at a;obtain⟨r,a⟩:=a;split at a
  case h_2=>cases a
  rename_i e t;simp only[bd] at a;obtain⟨⟨c,b⟩,a⟩:=a;split at a
  case h_2=>cases a
  rename_i v u;simp only[bd] at a;obtain⟨s,a⟩:=a;split at a
  case h_2=>cases a
  rename_i q d;exact⟨eM r,e,q,v,t,er c,eM b,u,d,qB.ok a,er s⟩
 |.pr _ _,_,a=>by cases a
 |.nil,_,a=>by cases a
 |.c6,_,a=>by cases a
theorem qB.ok {f:Program}:∀{g:ag} {b:List Field} {d:Nat} {c:cS},qB f g b d c=true->g7 f g b d c
 |.pr h i,[],d,c,a=>by cases a
 |.pr h i,r::s,d,c,a=>by
  simp only[qB,bd] at a;obtain⟨⟨⟨⟨j,k⟩,l⟩,e⟩,m⟩:=a;split at e
  case h_2=>cases e
  rename_i p n;split at e
  case h_2=>cases e
  rename_i q o;exact⟨er j,gp.ok k,eM l,⟨p,q,n,o,s7.ok e⟩,qB.ok m⟩
 |.nil,[],d,c,a=>by have a:c=[]:=(by simpa[qB] using a);exact a
 |.nil,_::_,d,c,a=>by cases a
 |.int _,b,d,c,a=>by cases b<;>cases a
 |.bool,b,d,c,a=>by cases b<;>cases a
 |.str,b,d,c,a=>by cases b<;>cases a
 |.a7 _ _,b,d,c,a=>by cases b<;>cases a
 |.ptr _ _,b,d,c,a=>by cases b<;>cases a
 |.osl _,b,d,c,a=>by cases b<;>cases a
 |.optr _,b,d,c,a=>by cases b<;>cases a
 |.st _,b,d,c,a=>by cases b<;>cases a
 |.c6,b,d,c,a=>by cases b<;>cases a
end
theorem Mk {e:Program}:∀{tt:List (TypeId×ag)},(tt.all λf=>gp e f.2 f.1)=true->∀b d,ao tt b=some d->dF e d b
 |[],_,_,_,a=>by cases a
 |(k,h)::r,a,b,d,c=>by
  simp only[rp,bd] at a;rw[bU] at c;split at c
  ·rename_i g;cases c;subst g;exact gp.ok a.1
  exact Mk (by simpa using a.2) b d c
end
section
def nM:(i:ag)->i.den->Prop
 |.int g,h=>(Lit.int g h).wf=true
 |.a7 _ b,c=>c.length<=maxLen/\∀a∈c,nM b a
 |.ptr _ b,a=>∀d,a=some d->nM b d
 |.st b,a=>nM b a
 |.pr e f,a=>nM e a.1/\nM f a.2
 |_,_=>True
def p5:ag->Bool
 |.int _|.bool|.str|.nil=>true
 |.a7 _ a|.ptr _ a|.st a=>p5 a
 |.pr b c=>p5 b&&p5 c
 |_=>false
theorem CD {P:Program} {c:ag} {a:TypeId} (d:dF P c a):P.cellsOf a=c.size:=by obtain⟨f,e,b,_⟩:=d.info;unfold Program.cellsOf;rw[b.info];simp[b.size]
section
variable {A:Type} {enc:TypeId×Value->A} {P:Program} {w:World}
theorem CE {l:Nat} {b:Addr} {c:cS} (f:w.cells? l b a=some c) (j:0<a):b.spot=none/\c.length=a/\b.block<w.heap.size/\dK w b.block b.off c:=by
 have n:=World.cells?_block f j;obtain⟨_,i,g⟩:=World.cells?_some f;have e:b.spot=none:=by
  have d:=g 0 j;have:(w.cell? (b.add 0)).isSome=true:=(by rw[d];simp[bo (U:0<c.length)]);simp only[Addr.add,if_true] at this;unfold World.cell? at this;split at this
  ·cases o:b.spot with
   |none=>rfl
   |some t=>rw[o] at this;simp at this
  cases this
 refine⟨e,i,n,λk s h=>?_⟩;have m:k<a:=(by rw[<-i];exact(eb.1 h).1);have:=g k m;rw[h] at this;rw[<-this];congr 1;unfold Addr.add;obtain⟨p,q,r⟩:=b;simp only at e;subst e;split
 ·rename_i d;subst d;rfl
 rfl
def ym (w:World):c5->Nat->Prop:=λ_ a=>a<w.heap.size
mutual
theorem BV:∀{τ:ag} {l:TypeId} {k:cS} {q:Nat} {u:DataW A×List MemPlace},p5 τ=true->dF P τ l->DataW.trod enc P w 0 (λ_=>true) true q l k=some u->∃c:τ.den,aN (ym w) w τ k c []/\nM τ c
 |.int p,l,k,q,u,_,⟨a,_,_,_,_,h⟩,d=>by obtain⟨C,rfl,_,bl⟩:=DataW.trod_int h d;exact⟨C,⟨rfl,rfl⟩,bl⟩
 |.bool,l,k,q,u,_,⟨a,_,_,_,_,h⟩,d=>by obtain⟨D,rfl,_⟩:=DataW.trod_bool h d;exact⟨D,⟨rfl,rfl⟩,trivial⟩
 |.str,l,k,q,u,_,⟨a,_,_,_,_,h⟩,d=>by obtain⟨cv,rfl,_,_⟩:=DataW.trod_string h d;exact⟨cv,⟨rfl,rfl⟩,trivial⟩
 |.a7 ci b,l,k,q,u,g,⟨a,S,_,_,_,_,h,t⟩,d=>by
  rcases DataW.trod_slice h d with⟨rfl,_⟩|⟨e,z,T,N,d3,C,rfl,rfl,_,_,a0,d0,d1,H,_⟩
  ·exact⟨[],⟨rfl,none,0,rfl,a8 _,λ_=>rfl,.inl rfl⟩,by simp[maxLen],ab⟩
  have G:=CD t;have R:=t.pos;have M:∀a,a<z->∃c:b.den,∃f:cS,f.length=b.size/\w.cells? 0 (e.add (a*b.size)) b.size=some f/\aN (ym w) w b f c []/\nM b c:=by
   intro a m;have i:=H a m;have v:N[a]?=some (N[a]'(by omega)):=bo _
   rw[v] at i;obtain⟨f,r,E⟩:=bZ.1 i;rw[G] at r;obtain⟨c,n,s⟩:=BV (τ:=b) g t E;exact⟨c,f,n.len,r,n,s⟩
  have a3:∀p,p<=z->∃o:List b.den,o.length=p/\∀(a:Nat) (c:b.den),o[a]?=some c->∃f:cS,f.length=b.size/\w.cells? 0 (e.add (a*b.size)) b.size=some f/\aN (ym w) w b f c []/\nM b c:=by
   intro p
   induction p with
   |zero=>intro _;exact⟨[],rfl,λa c d=>by simp at d⟩
   |succ p ce=>
    intro d2;obtain⟨o,i,v⟩:=ce U;obtain⟨c,f,r⟩:=M p U;refine⟨o++[c],by simp[i],λa K j=>?_⟩;rcases bp a o.length with m|m
    ·rw[lx m] at j;exact v a K j
    rw[l1 m] at j;have an:a=p:=(by have:=(eb.1 j).1;simp at this;omega);subst an;rw[i,Nat.sub_self] at j;simp only[iL,bI] at j;subst j;exact⟨f,r⟩
  obtain⟨o,i,v⟩:=a3 z (a8 _);refine⟨o,⟨rfl,some e,T,by rw[i],by rw[i];exact a0,(λd=>by cases d),?_⟩,by rw[i];omega,λc n=>?_⟩
  ·cases z with
   |zero=>exact .inl (Cg.1 i)
   |succ z=>
    right;obtain⟨d4,ds,_,Q,_⟩:=M 0 U;have am:e.add (0*b.size)=e:=(by simp[Addr.add]);rw[am] at Q;obtain⟨y,_,I,_⟩:=CE Q R;refine⟨e.block,e.off,by obtain⟨D,co,dl⟩:=e;simp only at y;subst y;rfl,I,λa c n=>?_⟩;obtain⟨f,W,X,Y,_⟩:=v a c n;obtain⟨_,_,_,B⟩:=CE X R;refine⟨f,W,?_,Y⟩;have aj:(e.add (a*b.size)).block=e.block:=(by unfold Addr.add;split<;>rfl);have Z:(e.add (a*b.size)).off=e.off+a*b.size:=by
     unfold Addr.add;split
     ·rename_i ad;rw[ad];rfl
     rfl
    rw[aj,Z] at B;exact B
  obtain⟨a,m,rfl⟩:=ha.1 n;obtain⟨_,_,_,_,s⟩:=v a _ (bo m);exact s
 |.ptr ci b,l,k,q,u,g,⟨a,S,_,_,_,_,h,t⟩,d=>by
  rcases DataW.trod_pointer h d with⟨rfl,_⟩|⟨e,V,c,C,rfl,rfl,_,r,E⟩
  ·exact⟨none,⟨rfl,rfl⟩,λc d=>by cases d⟩
  rw[CD t] at r;obtain⟨K,j,s⟩:=BV (τ:=b) g t E;obtain⟨y,_,I,B⟩:=CE r t.pos;refine⟨some K,⟨rfl,e.block,e.off,V,by obtain⟨D,co,dl⟩:=e;simp only at y;subst y;rfl,I,j.len,B,j⟩,λc d=>by cases d;exact s⟩
 |.st b,l,k,q,u,g,⟨_,a,L,d5,m,a4,_,_,h,x,_⟩,d=>by
  obtain⟨o,C,rfl,_,av,bs,H⟩:=DataW.trod_struct h d;have G:P.cellsOf l=b.size:=(by unfold Program.cellsOf;rw[m];simp[a4]);obtain⟨c,n,s⟩:=Mi (τ:=b) (fs:=L.toList) (cs:=k) g x (by rw[hX,<-G];exact av) (λJ O x=>by
   have x:L[J]?=some O:=(by simpa using x);have:=H J O x;have ap:J<o.length:=(by rw[bs];exact(lW.1 x).1);rw[bo ap] at this;exact⟨_,_,this⟩)
  rw[lu] at n;exact⟨c,n,s⟩
 |.osl _,_,_,_,_,g,_,_=>by cases g
 |.optr _,_,_,_,_,g,_,_=>by cases g
 |.pr _ _,_,_,_,_,_,F,_=>F.elim
 |.nil,_,_,_,_,_,F,_=>F.elim
 |.c6,_,_,_,_,g,_,_=>by cases g
theorem Mi:∀{τ:ag} {fs:List Field} {c:Nat} {g cs:cS},p5 τ=true->g7 P τ fs c g->cs.length=c+τ.size->(∀(f:Nat) b,fs[f]?=some b->∃(k:Nat) (l:DataW A×List MemPlace),DataW.trod enc P w 0 (λ_=>true) true k b.type ((cs.drop b.offset).take (P.cellsOf b.type))=some l)->∃m:τ.den,aN (ym w) w τ (cs.drop c) m []/\nM τ m
 |.pr z B,b::D,c,g,cs,d,q,e,j=>by simp only[p5,bd] at d;obtain⟨o,h,C,_,p⟩:=q;obtain⟨k,l,i⟩:=j 0 b rfl;rw[o,CD h] at i;obtain⟨x,s,t⟩:=BV d.1 h i;obtain⟨y,u,v⟩:=Mi (cs:=cs) d.2 p (by rw[e];simp only[ag.size];omega) (λf n r=>j (f+1) n r);exact⟨(x,y),⟨[],[],rfl,s,by rw[nE];exact u⟩,t,v⟩
 |.nil,[],c,g,cs,_,_,e,_=>by refine⟨(),⟨rfl,?_⟩,trivial⟩;rw[List.drop_eq_nil_iff];simp only[ag.size] at e;omega
 |.pr _ _,[],_,_,_,_,a,_,_=>a.elim
 |.nil,_::_,_,_,_,_,a,_,_=>a.elim
 |.int _,fs,_,_,_,_,a,_,_=>by cases fs<;>exact a.elim
 |.bool,fs,_,_,_,_,a,_,_=>by cases fs<;>exact a.elim
 |.str,fs,_,_,_,_,a,_,_=>by cases fs<;>exact a.elim
 |.a7 _ _,fs,_,_,_,_,a,_,_=>by cases fs<;>exact a.elim
 |.ptr _ _,fs,_,_,_,_,a,_,_=>by cases fs<;>exact a.elim
 |.osl _,fs,_,_,_,_,a,_,_=>by cases fs<;>exact a.elim
 |.optr _,fs,_,_,_,_,a,_,_=>by cases fs<;>exact a.elim
 |.st _,fs,_,_,_,_,a,_,_=>by cases fs<;>exact a.elim
 |.c6,fs,_,_,_,_,a,_,_=>by cases fs<;>exact a.elim
end
theorem Ye {g:ag} {h:TypeId} (l:p5 g=true) (e:dF P g h) (d:Value.okWide P w .any a h b):b=bH g b.cells.toList:=by
 cases g with
 |int r=>
  obtain⟨f,_,_,_,_,c⟩:=e;obtain⟨i,rfl⟩:=Go.WideShapes.okWide_int c d;rfl
 |bool=>
  obtain⟨f,_,_,_,_,c⟩:=e;obtain⟨i,rfl⟩:=Go.WideShapes.okWide_bool c d;rfl
 |str=>
  obtain⟨f,_,_,_,_,c⟩:=e;obtain⟨i,rfl⟩:=Go.WideShapes.okWide_string c d;rfl
 |a7 m j=>
  obtain⟨f,k,_,_,_,_,c,_⟩:=e;obtain⟨n,s,o,rfl⟩:=Go.WideShapes.okWide_slice c d;rfl
 |ptr m j=>
  obtain⟨f,k,_,_,_,_,c,_⟩:=e;simp only[Value.okWide,c,Cell.okWide] at d;cases b<;>first|rfl|simp_all [Cell.ok]
 |st j=>
  obtain⟨_,f,q,t,_,_,_,_,c,_,_⟩:=e;simp only[Value.okWide,c] at d;obtain⟨p,rfl,_⟩:=d;rfl
 |_=>first|(cases l;done)|exact e.elim
def tA (P:Program):List fC->cR->Bool
 |[],[]=>true
 |.v a::c,b::d=>p5 a&&gp P a b&&tA P c d
 |_,_=>false
def nN:(d:List fC)->fI d->Prop
 |[],_=>True
 |.v e::b,a=>nM e a.1/\nN b a.2
 |.m _::b,a=>nN b a.2
 |.o _::b,a=>nN b a.2
 |.c _ _::b,a=>nN b a.2
 |.n::b,a=>nN b a.2
 |.w _::b,a=>nN b a.2
 |.s _ _::b,a=>nN b a.2
theorem GK {P:Program}:∀{ps:List fC} {b:cR} {k:Nat},tA P ps b=true->ip k ps=none
 |[],_,_,_=>rfl
 |.v g::d,e::f,k,a=>by simp only[tA,bd] at a;exact GK (ps:=d) (k:=k+1) a.2
 |.v _::_,[],_,a=>by cases a
 |.m _::_,b,_,a=>by cases b<;>cases a
 |.o _::_,b,_,a=>by cases b<;>cases a
 |.c _ _::_,b,_,a=>by cases b<;>cases a
 |.n::_,b,_,a=>by cases b<;>cases a
 |.w _::_,b,_,a=>by cases b<;>cases a
 |.s _ _::_,b,_,a=>by cases b<;>cases a
def xK {b:Type}:List b->cN
 |[]=>[]
 |_::a=>[]::xK a
theorem BB {b:Type}:∀a:List b,(xK a).flatten=[]
 |[]=>rfl
 |_::a=>by simp only[xK,iu,BB a,fr]
theorem GM:∀{f:List fC} {l:cR} {base:Nat} {b:cS} {i:List (DataW A)} {r:List MemPlace},tA P f l=true->DataW.TrodAll enc P w 0 (λ_=>true) true l b i r->(∀(j:Nat) k g,l[j]?=some k->b[j]?=some g->Value.okWide P w .any base k g)->∃h:fI f,nN f h/\∀{x:Type} (d:hn f x),kI (ve (λd=>d<w.heap.size) (λ_=>False) w) (eP f h d) b (xK b)
 |[],[],base,b,i,r,_,q,_=>by cases b<;>cases i<;>first|exact⟨(),trivial,λ_=>trivial⟩|exact q.elim
 |.v U::Q,y::x,base,b,i,r,e,q,u=>by
  simp only[tA,bd] at e;obtain⟨⟨s,z⟩,B⟩:=e;obtain⟨g,T,M,N,R,S,rfl,rfl,rfl,p,C⟩:=Go.ChangeShapes.trodAll_cons q;obtain⟨O,p⟩:=p;have t:=gp.ok z;obtain⟨L,I,F⟩:=BV s t p;obtain⟨h,D,E⟩:=GM B C (λj k K G H=>u (j+1) k K (by simpa using G) (by simpa using H));refine⟨(L,h),⟨F,D⟩,λd=>⟨⟨rfl,g.cells.toList,Ye s t (u 0 y g rfl rfl),?_⟩,E d⟩⟩;exact I.mono (λJ d e=>⟨by cases J with
   |bA=>exact e
   |dN=>exact .inl e,bN.refl _ _⟩) ab
 |[],_::_,_,_,_,_,a,_,_=>by cases a
 |.v _::_,[],_,_,_,_,a,_,_=>by cases a
 |.m _::_,_,_,_,_,_,a,_,_=>by cases a
 |.o _::_,_,_,_,_,_,a,_,_=>by cases a
 |.c _ _::_,_,_,_,_,_,a,_,_=>by cases a
 |.n::_,_,_,_,_,_,a,_,_=>by cases a
 |.w _::_,_,_,_,_,_,a,_,_=>by cases a
theorem Mh {P:Program} (k:laidOutB P=true) {i j:World} {o:Nat->Bool}:∀{f:cR} {e:cS} {d:List (DataW A)} {c:List MemPlace},(∀h∈f,P.readableRec h=true/\h<P.types.size)->DataW.TrodAll enc P i 0 (λ_=>true) true f e d c->(∀a∈c,i.sameAt j a)->(∀a∈c,o a.block=true)->DataW.TrodAll enc P j 0 o true f e d c
 |[],e,d,c,_,g,_,_=>by cases e<;>cases d<;>first|exact g|exact g.elim
 |T::f,e,d,c,l,g,m,n=>by obtain⟨y,z,w,x,s,t,rfl,rfl,rfl,p,q⟩:=Go.ChangeShapes.trodAll_cons g;obtain⟨u,v⟩:=l T ab;exact⟨s,t,Go.WideElems.Trod_stays k u v p (λa b=>m a (by simp[b])) (λa b=>n a (by simp[b])),Mh k (λh r=>l h (by simp[r])) q (λa b=>m a (by simp[b])) (λa b=>n a (by simp[b])),rfl⟩
theorem UR {E:dW} {F:aB} {h:Func} {n:ChangeSpec} {T:TypeId} (a4:aA E F) (d2:laidOutB E.P=true) (d7:(h.params.toList.all λe=>E.P.readableRec e&&Nat.blt e E.P.types.size)=true) (X:tA E.P F.ps h.params.toList=true) (_hrs:F.rs=[.bool]) (O:h.resultTypes=#[T]) (v:E.P.underlying T=some .bool) (Z:n.vars=[]) (fs:∀c:List (DataW A),c.length=h.params.toList.length->n.fn A c=⟨[.lit (.bool true)],c,[]⟩) (ex:∀u,nN F.ps u->∃b,F.u2 u=some b/\hm F.rs (gL F.ps b)=[⟨.bool,true⟩]) {M a0 co ap:Bool} {q:cQ} {c C:List (DataW A)} {j:List MemPlace} (ft:∀(s:Nat) e p,h.params[s]?=some e->q[s]?=some p->Value.okWide E.P d .any a e p) (Q:DataW.Whole enc E.P h.params.toList n.vars M d q.toList c C j) (bl:jC E (λb=>b<d.heap.size) d):Calls E.P F.f q d λN g=>∃p,N=.returned p/\n.post enc E.P h M a0 co ap d q p g:=by
 have R:=Q;obtain⟨y,f0,D,G,W,cv,d3⟩:=Q;rw[Z] at G;have dl:C=[]/\f0=[]:=by cases C with
  |nil=>exact⟨rfl,G⟩
  |cons=>exact G.elim
 obtain⟨rfl,rfl⟩:=dl;rw[jc] at W;subst W;obtain⟨u,d6,ci⟩:=GM (w:=d) (base:=a) X D (λs e p K L=>ft s e p (by simpa using K) (by simpa using L));obtain⟨b,ce,d9⟩:=ex u d6;have d1:∀{t:cR} {B:cS} {c:List (DataW A)} {y:List MemPlace},DataW.TrodAll enc E.P d 0 (λ_=>true) true t B c y->c.length=t.length:=by
  intro t
  induction t with
  |nil=>intro B c y k;cases B<;>cases c<;>first|rfl|exact k.elim
  |cons T t fz=>
   intro B c y k;obtain⟨p,gf,f3,f4,gc,ge,rfl,rfl,rfl,f9,a3⟩:=Go.ChangeShapes.trodAll_cons k;simp[fz a3]
 have H:n.fn A (c++[])=⟨[.lit (.bool true)],c,[]⟩:=(by rw[jc];exact fs c (d1 D));have J:=R.lt;have U:=a4.2 u b ce d (λb=>b<d.heap.size) (λ_=>False) q.toList (xK q.toList) (λb k=>k.elim id (λk=>k.elim)) (ci b) (by rw[BB];exact List.nodup_nil) (by rw[BB];simp) (by rw[xT,GK X];trivial);rw[Array.toArray_toList] at U;refine(U bl).mono ?_;rintro N g ⟨f1,f7,x,z,rfl,l⟩;refine⟨_,rfl,?_⟩;have em:oe z=.bool true:=by
  have:=l.res;rw[d9] at this;cases z with
  |nil=>cases x<;>exact this.elim
  |cons p z=>
   cases x with
   |nil=>exact this.elim
   |cons f8 x=>
    obtain⟨⟨f2,L,_,rfl⟩,el⟩:=this;cases z with
    |nil=>exact L
    |cons=>cases x<;>exact el.elim
 have I:∀b,b<d.heap.size->g.heap[b]?=d.heap[b]?:=λb v=>l.heap b v (by rw[BB];simp);have eq:∀i∈j,d.sameAt g i:=λi r=>by
  have:=I i.block (J i r);cases i with
  |cell b m=>show g.cell? _=d.cell? _;unfold World.cell?;rw[show g.heap[b]?=d.heap[b]? from this]
  |map b=>exact this
 have cs:∀b m,MemPlace.cell b m∈j->g.frozen? ⟨b,m,none⟩=d.frozen? ⟨b,m,none⟩:=λb m r=>(by unfold World.frozen?;rw[show g.heap[b]?=d.heap[b]? from I b (J _ r)]);rw[em];have d8:∀e∈h.params.toList,E.P.readableRec e=true/\e<E.P.types.size:=λe K=>(by have:=eI.1 d7 e K;simp only[bd] at this;exact⟨this.1,eM this.2⟩);have S:∀o:Nat->Bool,(∀i∈j,o i.block=true)->DataW.TrodAll enc E.P g 0 o true h.params.toList q.toList (n.fn A (c++[])).args j:=λo fp=>(by rw[H];exact Mh d2 d8 D eq fp);have Y:∀(b:Nat) (o:Nat->Bool) (V:Bool),DataW.TrodAll enc E.P g b o V h.resultTypes.toList ((Value.bool true).resultList h.resultTypes.size) (n.fn A (c++[])).results []:=λb o V=>(by rw[H,O];exact Go.ChangeShapes.trodAll_mk1 ⟨1,by unfold DataW.trod;rw[v];rfl⟩);have ad:∀o:Nat->Bool,DataW.TrodVars enc E.P g o n.vars (n.fn A (c++[])).vars []:=λo=>(by rw[H,Z];rfl);have d4:∀(s:Nat) (e:TypeId) (an:Value),h.resultTypes[s]?=some e->((Value.bool true).resultList h.resultTypes.size)[s]?=some an->Value.okWide E.P g .any 0 e an:=
  Go.RowKit.ok_one O rfl (Go.RowKit.okWide_bool_mk v true)
 have d5:∀i∈j,(λb=>decide (b<d.heap.size)) i.block=true:=λi r=>(by simpa using J i r);have d0:d.keptBut g (λ_=>False):=by
  refine⟨l.os,l.output,λam ds=>?_⟩;rw[I am ds];cases d.heap[am]? with
  |none=>rfl
  |some fT=>cases fT with
   |cells av e f6=>exact⟨rfl,rfl,rfl,λ_ _=>rfl⟩
   |map f5 av=>exact .inr ⟨rfl,rfl⟩
   |_=>rfl
 refine⟨c,[],j,[],j,[],R,Y _ _ _,S _ d5,ad _,World.keptBut_mono (λ_ k=>k.elim) d0,λ_=>?_⟩;refine⟨d4,_,_,([]++j)++[],⟨[]++j,[],Go.ChangeShapes.trodAll_append (S _ (λ_ _=>rfl)) (Y _ _ _),ad _,rfl,?_,?_⟩,?_⟩
 ·intro b m l;have l:MemPlace.cell b m∈j:=(by simpa using l);rw[cs b m l];exact cv b m l
 ·intro bs;simpa using d3 bs
 intro i r _;simpa using r
end
end
section
inductive FJ where
 |a
 |b (f:cY)
 |c (f m:cY)
def C7 (a:Nat):Nat:=a/32+a %32*500000
abbrev ah (a:Nat):Nat×nO:=(a,.s (.ref a []))
abbrev aT (a:Nat):Nat×nO:=(a,.v (.int .i64))
inductive oy where
 |l
 |o (a:oy)
 |t (j:FQ) (a b:oy)
 |n (b:oy)
 |p (xY:l6) (m:FSq) (a:oy)
 |k (l:cY) (a:oy)
 |z (F:cY) (a:oy)
 |d (L:List FJ)
def BH (b:Array Oper) (a:Nat) (f c:cY):kc:=match b[a]? with
 |some d=>⟨a,dl d,d.looksAt b,oc b a,f,c⟩
 |none=>⟨a,[],[],[],f,c⟩
def As (d:Array Oper):Nat->List FJ->List kc
 |_,[]=>[]
 |i,.a::e=>BH d i [] []::As d (i+1) e
 |i,.b f::e=>BH d i (f.map C7) []::As d (i+1) e
 |i,.c f g::e=>BH d i (f.map C7) (g.map C7)::As d (i+1) e
def qA:Code->kX
 |.seq a b=>.two .none (qA a) (qA b)
 |.cond _ a b=>.two .none (qA a) (qA b)
 |.block _ a=>.one (qA a)
 |.region _ c true=>.draw ((List.range c.size).map λd=>BH c d [] [])
 |_=>.leaf
def oy.ex:oy->Code->kX
 |.l,a=>qA a
 |.o b,.block _ a=>.one (b.ex a)
 |.t J b c,.seq a e=>.two J (b.ex a) (c.ex e)
 |.t J b c,.cond _ a e=>.two J (b.ex a) (c.ex e)
 |.n c,.seq a e=>.two .none (qA a) (c.ex e)
 |.n c,.cond _ a e=>.two .none (qA a) (c.ex e)
 |.p j h b,.loop a=>.loop j h (b.ex a)
 |.k f b,a=>.keep f (b.ex a)
 |.z g b,a=>.m6 g (b.ex a)
 |.d f,.region _ i _=>.draw (As i 0 f)
 |_,_=>.leaf
def yp (E:dW):Type:={a:List (Nat×aB)//∀b∈a,aA E b.2}
def aH {E:dW}:yp E:=⟨[],Ma⟩
def ak {E:dW} {a:aB} (c:aA E a) (b:yp E):yp E:=⟨(a.f,a)::b.1,aav c b.2⟩
section
variable {E:dW} {f:Nat} {fn:Func} {ps:List fC} {C:List ag} {D:fI ps->Option (hn ps (ks C))}
theorem aA.q (d:yp E) (l:oy) (k:E.P.funcs[f]?=some fn) (j:∀(h:cQ) (i:World),(callFunc f h).run E.P i=.ok (.enter f h) i) (g:List (Nat×ag):=[]) (e:c0:=[]) (a:(fn.body.isSome&&Nat.ble ps.length fn.ntmps)=true:=by kernel_rfl) (c:∀b,AS ⟨E.tt,d.1,g,fn.ntmps,ix 0 ps++mF (ip 0 ps),[],e,ip 0 ps,[],[],E.glob⟩ (l.ex (fn.body.getD .skip)) (fn.body.getD .skip) ps fn.results.toList C b=D b:=by intro b;kernel_rfl):aA E ⟨f,ps,C,D⟩:=
 have a:=bd _ _▸a
 aA.JB d.1 g e _ [] (λ_ c=>by cases c) k a.1 Array.toArray_toList.symm a.2 j d.2 c
end
end
section
def ac {α:Type} (c:Option α) (b:α->Prop):Prop:=∃a,c=some a/\b a
section
variable {α A σ ρ τ:Type}
theorem ac.af {b:α} {c:α->Prop}:ac (some b) c↔c b:=⟨λ⟨_,a,d⟩=>by cases a;exact d,λa=>⟨b,rfl,a⟩⟩
theorem ac.pn {a:α->Prop}:ac none a↔False:=⟨(λ⟨_,b,_⟩=>by cases b),False.elim⟩
theorem ac.bT {x:Option α} {b:α->Option A} {a:A->Prop}:ac (x.bind b) a↔ac x (λc=>ac (b c) a):=by
 cases x with
 |none=>simp only[Option.bind_none,ac.pn]
 |some c=>simp only[aM,ac.af]
theorem ac.xh {a:Option α} {c:α->A} {b:A->Prop}:ac (a.map c) b↔ac a (λd=>b (c d)):=by
 cases a with
 |none=>simp only[Option.map_none,ac.pn]
 |some d=>simp only[fB,ac.af]
theorem ac.bS {b:Bool} {c d:Option α} {a:α->Prop}:ac (bif b then c else d) a↔(b=true->ac c a)/\(b=false->ac d a):=by cases b<;>simp
theorem ac.mono {c:Option α} {P b:α->Prop} (d:ac c P) (g:∀a,P a->b a):ac c b:=let⟨a,e,f⟩:=d;⟨a,e,g a f⟩
theorem ac.eq_iff {c:Option α} {b:α}:ac c (· =b)↔c=some b:=⟨λ⟨e,a,d⟩=>by rw[a,d],λa=>⟨b,a,rfl⟩⟩
theorem ac.H9 {b:List α} {d:α->Prop}:ac (ay b i) d↔∃(e:i.toNat<b.length),0<=i/\d b[i.toNat]:=by
 unfold ay;by_cases a:0<=i
 ·rw[if_pos a];by_cases c:i.toNat<b.length
  ·rw[bo c,ac.af];simp[c,a]
  rw[fc U,ac.pn];simp[c]
 rw[if_neg a,ac.pn];simp[a]
theorem ac.hB {b:List α} {c:α->Prop}:ac (ay b (a:Int)) c↔∃(d:a<b.length),c b[a]:=by rw[ac.H9];simp
theorem ac.n3:ac (bx a i) j↔(0<=i/\i.toNat<a)/\j i.toNat:=by
 unfold bx;by_cases b:0<=i/\i.toNat<a
 ·rw[if_pos b,ac.af];simp[b]
 rw[if_neg b,ac.pn];simp[b]
theorem ac.qK {c:Unit->Prop}:ac (bK a) c↔a<=e8/\c ():=by
 unfold bK;by_cases b:a<=e8
 ·rw[if_pos b,ac.af];simp[b]
 rw[if_neg b,ac.pn];simp[b]
theorem ac.uH {a:Int}:ac (ej i a) j↔(0<=i/\i<=a/\a<=(e8:Int))/\j i.toNat:=by
 unfold ej;by_cases b:0<=i/\i<=a/\a<=(e8:Int)
 ·rw[if_pos b,ac.af];simp[b]
 rw[if_neg b,ac.pn];simp[b]
def bi (d:List α) (c:Nat) (b:α->Option A):Option A:=match d[c]? with
 |some a=>b a
 |none=>none
theorem ac.nT {c:List α} {e:α->Option A} {d:A->Prop}:ac (bi c a e) d↔∃(b:a<c.length),ac (e c[a]) d:=by
 unfold bi;by_cases b:a<c.length
 ·rw[bo b];simp[b]
 rw[fc U];simp[b,ac.pn]
theorem ac.loop {j:σ->Option (σ⊕ρ)} {i:ρ->Prop} (g:σ->Prop) (h:σ->Nat) {a:σ} (n:g a) (m:∀a,g a->ac (j a) (λ|.inl f=>g f/\h f<h a|.inr b=>i b)):ac (loop j a) i:=by
 have s:∀e a,h a<=e->g a->∃b,h4 j (e+1) a=some b/\i b:=by
  intro e
  induction e with
  |zero=>
   intro a q k;obtain⟨l,d,c⟩:=m a k;cases l with
   |inl f=>have:=c.2;omega
   |inr b=>exact⟨b,by simp only[h4,d],c⟩
  |succ e r=>
   intro a q k;obtain⟨l,d,c⟩:=m a k;cases l with
   |inl f=>
    obtain⟨b,o,p⟩:=r f (by have:=c.2;omega) c.1;exact⟨b,by rw[h4,d];exact o,p⟩
   |inr b=>exact⟨b,by simp only[h4,d],c⟩
 obtain⟨b,d,c⟩:=s (h a) a (a8 _) n;exact⟨b,xc.2 ⟨_,d⟩,c⟩
theorem ac.for {j:Int×τ->Option ((Int×τ)⊕ρ)} {h:ρ->Prop} (b:Nat) (d:Nat->τ->Prop) {i0:Nat} {p:τ} (t:i=(i0:Int)) (q:d i0 p) (n:i0<=b) (v:∀a c,i0<=a->a<b->d a c->ac (j ((a:Int),c)) (λ|.inl k=>k.1=((a+1:Nat):Int)/\d (a+1) k.2|.inr f=>h f)) (s:∀c,d b c->ac (j ((b:Int),c)) (λ|.inl _=>False|.inr f=>h f)):ac (i9.loop j (i,p)) h:=by
 subst t;refine ac.loop (λg=>∃a:Nat,i0<=a/\a<=b/\g.1=(a:Int)/\d a g.2) (λg=>b-g.1.toNat) ⟨i0,a8 _,n,rfl,q⟩ ?_;rintro⟨w,c⟩ ⟨a,u,n,rfl,o⟩;rcases bp a b with m|m
 ·refine(v a c u m o).mono ?_;rintro(⟨x,y⟩|f) e
  ·obtain⟨l,r⟩:=e;simp only at l;subst l;exact⟨⟨a+1,U,U,rfl,r⟩,by show b-Int.toNat _<b-Int.toNat _;simp;omega⟩
  exact e
 obtain rfl:a=b:=U;refine(s c o).mono ?_;rintro(k|f) e
 ·exact e.elim
 exact e
end
theorem aa8 (a:Int):IntKind.i64.wrap a=if(9223372036854775808:Int)<=a %18446744073709551616 then a %18446744073709551616-18446744073709551616 else a %18446744073709551616:=by
 unfold IntKind.wrap;by_cases b:(9223372036854775808:Int)<=a %18446744073709551616
 ·rw[if_pos b];exact if_pos (show(true&&decide (a %18446744073709551616>=(9223372036854775808:Int)))=true by simp[b])
 rw[if_neg b];exact if_neg (show¬(true&&decide (a %18446744073709551616>=(9223372036854775808:Int)))=true by simp[b])
theorem wrap64 {x:Int} (a:-9223372036854775808<=x) (b:x<=9223372036854775807):IntKind.i64.wrap x=x:=by rw[aa8];split<;>omega
theorem fo (b:a<9223372036854775807):IntKind.i64.wrap ((a:Int)+1)=((a+1:Nat):Int):=by rw[wrap64 U U];simp
end
section
abbrev aq {α:Type} (a:List α):Int:=((a.length:Nat):Int)
abbrev au (a:Int):Int:=IntKind.i64.wrap a
abbrev aF (a:Int):Int:=IntKind.u64.wrap a
abbrev bX (a:Int):Int:=IntKind.u32.wrap a
abbrev aS (a:Int):Int:=IntKind.i64.wrap (a+1)
def rd {α A:Type} (a:List α) (c:Int) (e:α->Option A):Option A:=(bx a.length c).bind λd=>(bi a d λb=>some b).bind e
def wr {α A:Type} (a:List α) (c:Int) (e:α) (d:List α->Option A):Option A:=(bx a.length c).bind λb=>(bi a b λ_=>some (a.set b e)).bind d
section
variable {α A:Type}
theorem jv {b:List α} (d:a<b.length) (c:α->Option A):rd b (a:Int) c=c b[a]:=by unfold rd bx;rw[if_pos ⟨U,by simpa using d⟩];show(bi b (a:Int).toNat _).bind c=_;unfold bi;rw[de,bo d];rfl
theorem Y6 {b:List α} {c:α} (e:0<=i) (d:b[i.toNat]?=some c) (a:α->Option A):rd b i a=a c:=by obtain⟨f,g⟩:=eb.1 d;obtain⟨j,rfl⟩:=ew e;have h:j<b.length:=f;exact(jv h a).trans (congrArg a g)
theorem i5 {b:List α} (d:a<b.length) (e:α) (c:List α->Option A):wr b (a:Int) e c=c (b.set a e):=by unfold wr bx;rw[if_pos ⟨U,by simpa using d⟩];show(bi b (a:Int).toNat _).bind c=_;unfold bi;rw[de,bo d];rfl
end
end
def ze:cw->cW:=λ(e,h,_)=>(loop (σ:=cF) (ρ:=cz) (λ(f,c,_)=>bif decide (c<((e.length:Nat):Int)) then(Option.bind (α:=cH⊕cg) ((ay e c).bind λd=>Option.bind (α:=Unit⊕(cH⊕cg)) (bif decide (d<=f)==false then bif decide (d>=h) then some (.inr (.inr (.inr (.inr (false,()))))) else some (.inl ()) else some (.inr (.inr (.inr (.inr (false,())))))) λa=>match a with
 |.inl _=>(some (.inl (d,())))
 |.inr b=>some b) λa=>match a with
 |.inl (g,_)=>(some (.inl (g,IntKind.i64.wrap (c+(1:Int)),())))
 |.inr b=>some b) else some (.inr (.inl ()))) ((-1:Int),(0:Int),())).bind λa=>match a with
 |.inl _=>(some (true,()))
 |.inr b=>some b
def qe:cH->cW:=λ(a,_)=>some ((a !=a),())
def rV:cF->cW:=λ(a,b,_)=>(qe (a,())).bind λ(c,_)=>(bif c==true then(qe (b,())).bind λ(aL,_)=>bif (!aL)==false then some (decide (a<b),()) else some (true,()) else some (decide (a<b),()))
def zE:cH->cW:=λ(a,_)=>some ((a !=a),())
def zy:cw->Option cC:=λ(b,e,_)=>(loop (σ:=cF) (ρ:=cH) (λ(c,d,_)=>bif decide (c<d) then(dk IntKind.u64 (IntKind.u64.wrap (IntKind.i64.wrap (c+d))) (1:Int)).bind λf=>(ay b (IntKind.i64.wrap f)).bind λk=>(rV (k,e,())).bind λ(i,_)=>bif i then some (.inl (IntKind.i64.wrap (IntKind.i64.wrap f+(1:Int)),d,())) else some (.inl (c,IntKind.i64.wrap f,())) else some (.inr (c,()))) ((0:Int),((b.length:Nat):Int),())).bind λ(a,_)=>(bif decide (a<((b.length:Nat):Int))==true then(ay b a).bind λl=>bif (l==e)==false then(ay b a).bind λj=>(zE (j,())).bind λ(g,_)=>bif g==true then(zE (e,())).bind λ(h,_)=>some (a,h,()) else some (a,false,()) else some (a,true,()) else some (a,false,()))
def tQ:(ct×Int×Int×Unit)->cW:=λ(a,c,d,_)=>(ay a.1 c).bind λe=>(zy (e,d,())).bind λ(_,b,_)=>some (b,())
def vW:cm->cX:=λ(a,_)=>(bif decide ((((a.1).length:Nat):Int)>(200:Int)) then some ((6:Int),()) else((loop (σ:=cH) (ρ:=cA) (λ(d,_)=>bif decide (d<(((a.1).length:Nat):Int)) then(Option.bind (α:=Unit⊕cl) ((ay a.1 d).bind λj=>(ze (j,(((a.1).length:Nat):Int),())).bind λ(aL,_)=>bif (!aL)==false then(tQ (a,d,d,())).bind λ(i,_)=>bif i then some (.inr (.inr (.inr ((1:Int),())))) else some (.inl ()) else some (.inr (.inr (.inr ((1:Int),()))))) λb=>match b with
 |.inl _=>(some (.inl (IntKind.i64.wrap (d+(1:Int)),())))
 |.inr c=>some c) else some (.inr (.inl ()))) ((0:Int),())).bind λb=>match b with
 |.inl _=>((loop (σ:=cH) (ρ:=cA) (λ(e,_)=>bif decide (e<(((a.1).length:Nat):Int)) then((ay a.1 e).bind λg=>(loop (σ:=cH) (ρ:=cc) (λ(f,_)=>bif decide (f<((g.length:Nat):Int)) then(ay g f).bind λk=>(tQ (a,k,e,())).bind λ(h,_)=>bif !h then some (.inr (.inr (.inr (.inr ((1:Int),()))))) else some (.inl (IntKind.i64.wrap (f+(1:Int)),())) else some (.inr (.inl ()))) ((0:Int),())).bind λb=>match b with
 |.inl _=>(some (.inl (IntKind.i64.wrap (e+(1:Int)),())))
 |.inr c=>some c) else some (.inr (.inl ()))) ((0:Int),())).bind λb=>match b with
 |.inl _=>(some ((0:Int),()))
 |.inr c=>some c)
 |.inr c=>some c))
def y6:cH->Option cj:=λ(b,_)=>(ej b b).bind λh=>(ej b b).bind λi=>(loop (σ:=cd) (ρ:=cj) (λ(d,a,_)=>bif decide (d<b) then(bx (a.1).length d).bind λf=>((bi a.1 f λ_=>some ((a.1).set f (-1:Int))).map λm=>(m,a.2)).bind λc=>(bx (c.2.1).length d).bind λe=>(((bi c.2.1 e λ_=>some ((c.2.1).set e (-1:Int))).map λj=>(j,c.2.2)).map λk=>(c.1,k)).bind λl=>some (.inl (IntKind.i64.wrap (d+(1:Int)),l,())) else some (.inr (a,()))) ((0:Int),(List.replicate h (0:Int),(List.replicate i (0:Int),())),())).bind λ(g,_)=>some (g,())
def y5:(cp×Int×Int×Unit)->Option cj:=λ(j,m,e,_)=>(loop (σ:=cd) (ρ:=cj) (λ(b,d,_)=>Option.bind (α:=cj⊕(cd⊕cj)) (bif (b !=(-1:Int))==true then bif decide (b<e) then some (.inl (d,())) else some (.inr (.inr (d,()))) else some (.inr (.inr (d,())))) λo=>match o with
 |.inl (a,_)=>((bx (a.2.1).length b).bind λn=>(bi a.2.1 n λi=>some i).bind λh=>(bx (a.2.1).length b).bind λf=>(((bi a.2.1 f λ_=>some ((a.2.1).set f e)).map λq=>(q,a.2.2)).map λr=>(a.1,r)).bind λc=>Option.bind (α:=cj) (bif h==(-1:Int) then(bx (c.1).length b).bind λg=>((bi c.1 g λ_=>some ((c.1).set g e)).map λs=>(s,c.2)).bind λt=>some (t,()) else some (c,())) λ(k,_)=>some (.inl (h,k,())))
 |.inr p=>some p) (m,j,())).bind λ(l,_)=>some (l,())
def y4:cm->Option cw:=λ(a,_)=>(vW (a,())).bind λ(f,_)=>(bif f !=(0:Int) then some ([],f,()) else(y6 ((((a.1).length:Nat):Int),())).bind λ(k,_)=>(loop (σ:=cd) (ρ:=cj) (λ(b,d,_)=>bif decide (b<(((a.1).length:Nat):Int)) then(ay a.1 b).bind λg=>(loop (σ:=cd) (ρ:=cj) (λ(c,e,_)=>bif decide (c<((g.length:Nat):Int)) then(ay g c).bind λl=>(y5 (e,l,b,())).bind λ(j,_)=>some (.inl (IntKind.i64.wrap (c+(1:Int)),j,())) else some (.inr (e,()))) ((0:Int),d,())).bind λ(h,_)=>some (.inl (IntKind.i64.wrap (b+(1:Int)),h,())) else some (.inr (d,()))) ((0:Int),k,())).bind λ(i,_)=>some (i.1,(0:Int),()))
def Am:(ct×cZ×Int×Unit)->Option cD:=λ(q,x,b,_)=>(ej (IntKind.i64.wrap (b+(1:Int))) (IntKind.i64.wrap (b+(1:Int)))).bind λh=>(bx (List.replicate h false).length b).bind λj=>(bi (List.replicate h false) j λ_=>some ((List.replicate h false).set j true)).bind λE=>(ay q.1 b).bind λn=>(loop (σ:=cu) (ρ:=cB) (λ(i,l,_)=>bif decide (i<((n.length:Nat):Int)) then(ay n i).bind λA=>(loop (σ:=cu) (ρ:=cB) (λ(c,a,_)=>Option.bind (α:=cB⊕ca) (bif decide (c>=(0:Int))==true then bif decide (c<b)==true then(bx a.length c).bind λr=>(bi a r λo=>some o).bind λB=>bif !B then some (.inl (a,())) else some (.inr (.inr (a,()))) else some (.inr (.inr (a,()))) else some (.inr (.inr (a,())))) λy=>match y with
 |.inl (g,_)=>((bx g.length c).bind λk=>(bi g k λ_=>some (g.set k true)).bind λF=>(ay x c).bind λC=>some (.inl (C,F,())))
 |.inr z=>some z) (A,l,())).bind λ(t,_)=>some (.inl (IntKind.i64.wrap (i+(1:Int)),t,())) else some (.inr (l,()))) ((0:Int),E,())).bind λ(m,_)=>(loop (σ:=(Int×cV×cZ×Unit)) (ρ:=cD) (λ(d,e,f,_)=>bif decide (d<((m.length:Nat):Int)) then Option.bind (α:=(cV×cZ×Unit)) ((bx e.length d).bind λs=>(bi e s λp=>some p).bind λD=>bif D then(bK (f.length+([d]).length)).bind λ_=>some (e,(f++[d]),()) else some (e,f,())) λ(u,v,_)=>some (.inl (IntKind.i64.wrap (d+(1:Int)),u,v,())) else some (.inr (f,()))) ((0:Int),m,[],())).bind λ(w,_)=>some (w,())
def Al:cm->Option cq:=λ(g,_)=>(y4 (g,())).bind λ(d,j,_)=>(bif j !=(0:Int) then some ([],j,()) else(ej ((d.length:Nat):Int) ((d.length:Nat):Int)).bind λq=>(loop (σ:=(Int×cO×Unit)) (ρ:=ct) (λ(b,i,_)=>bif decide (b<((d.length:Nat):Int)) then(Am (g,d,b,())).bind λ(k,_)=>(loop (σ:=(Int×cO×cZ×Unit)) (ρ:=ct) (λ(e,a,f,_)=>bif decide (e<((k.length:Nat):Int)) then(bx f.length e).bind λp=>(bi f p λm=>some m).bind λl=>(bx a.length l).bind λh=>(bi a h λn=>some n).bind λt=>(bK (t.length+([b]).length)).bind λ_=>(bx a.length l).bind λc=>bif Nat.beq h c&&true then(bi a c λo=>some o).bind λu=>(bi a c λ_=>some (a.set c (u++[b]))).bind λv=>
 some (.inl (IntKind.i64.wrap (e+(1:Int)),v,f,())) else none else some (.inr (a,()))) ((0:Int),i,k,())).bind λ(r,_)=>some (.inl (IntKind.i64.wrap (b+(1:Int)),r,())) else some (.inr (i,()))) ((0:Int),List.replicate q [],())).bind λ(s,_)=>some (s,(0:Int),()))
def zK:(cZ×cZ×Unit)->cW:=λ(b,c,_)=>(bif ((b.length:Nat):Int)!=((c.length:Nat):Int) then some (false,()) else((loop (σ:=cH) (ρ:=cz) (λ(a,_)=>bif decide (a<((b.length:Nat):Int)) then(ay b a).bind λf=>(ay c a).bind λg=>bif f !=g then some (.inr (.inr (false,()))) else some (.inl (IntKind.i64.wrap (a+(1:Int)),())) else some (.inr (.inl ()))) ((0:Int),())).bind λd=>match d with
 |.inl _=>(some (true,()))
 |.inr e=>some e))
def zI:cD->cW:=λ(b,_)=>(loop (σ:=cH) (ρ:=cz) (λ(a,_)=>bif decide (a<((b.length:Nat):Int)) then(ay b a).bind λe=>(ay b (IntKind.i64.wrap (a-(1:Int)))).bind λf=>bif decide (e<=f) then some (.inr (.inr (false,()))) else some (.inl (IntKind.i64.wrap (a+(1:Int)),())) else some (.inr (.inl ()))) ((1:Int),())).bind λc=>match c with
 |.inl _=>(some (true,()))
 |.inr d=>some d
def wB:cr->Option cm:=λ(f,_)=>(loop (σ:=b2) (ρ:=b3) (λ(b,l,i,_)=>bif decide (b<((f.length:Nat):Int)) then(loop (σ:=(Int×ct×ct×cZ×Unit)) (ρ:=b1) (λ(a,e,c,d,_)=>bif decide (a<((f.length:Nat):Int)) then Option.bind (α:=b1) (Option.bind (α:=(Bool×ct×ct×cZ×Unit)) (bif (b !=a)==true then(ay f b).bind λt=>(ay t a).bind λu=>bif u==false then(ay f a).bind λv=>(ay v b).bind λw=>some (w,e,c,d,()) else some (true,e,c,d,()) else some (false,e,c,d,())) λ(q,m,j,h,_)=>
 bif q then(bK (h.length+([a]).length)).bind λ_=>some (m,j,(h++[a]),()) else some (m,j,h,())) λ(r,n,p,_)=>some (.inl (IntKind.i64.wrap (a+(1:Int)),r,n,p,())) else some (.inr (e,c,d,()))) ((0:Int),l,i,[],())).bind λ(s,g,k,_)=>(bK ((g.1).length+([k]).length)).bind λ_=>some (.inl (IntKind.i64.wrap (b+(1:Int)),s,((g.1++[k]),g.2),())) else some (.inr (l,i,()))) ((0:Int),([],()),([],()),())).bind λ(_,o,_)=>some (o,())
def wi:cw->cW:=λ(b,e,_)=>(loop (σ:=cH) (ρ:=cz) (λ(a,_)=>bif decide (a<((b.length:Nat):Int)) then(ay b a).bind λf=>bif f==e then some (.inr (.inr (true,()))) else some (.inl (IntKind.i64.wrap (a+(1:Int)),())) else some (.inr (.inl ()))) ((0:Int),())).bind λc=>match c with
 |.inl _=>(some (false,()))
 |.inr d=>some d
def uh:cm->cX:=λ(a,_)=>(bif decide ((((a.1).length:Nat):Int)>(200:Int)) then some ((6:Int),()) else((loop (σ:=cH) (ρ:=cA) (λ(b,_)=>bif decide (b<(((a.1).length:Nat):Int)) then(ay a.1 b).bind λh=>(zI (h,())).bind λ(aL,_)=>bif !aL then some (.inr (.inr ((1:Int),()))) else((loop (σ:=cH) (ρ:=cc) (λ(f,_)=>(ay a.1 b).bind λi=>bif decide (f<((i.length:Nat):Int)) then(Option.bind (α:=Unit⊕(cH⊕cc)) ((ay a.1 b).bind λj=>(ay j f).bind λe=>bif decide (e<(0:Int))==false then bif decide (e>=(((a.1).length:Nat):Int))==false then bif (e==b)==false then(ay a.1 e).bind λk=>(wi (k,b,())).bind λ(g,_)=>bif !g then some (.inr (.inr (.inr (.inr (.inr ((1:Int),())))))) else some (.inl ()) else some (.inr (.inr (.inr (.inr (.inr ((1:Int),())))))) else some (.inr (.inr (.inr (.inr (.inr ((1:Int),())))))) else some (.inr (.inr (.inr (.inr (.inr ((1:Int),()))))))) λc=>match c with
 |.inl _=>(some (.inl (IntKind.i64.wrap (f+(1:Int)),())))
 |.inr d=>some d) else some (.inr (.inl ()))) ((0:Int),())).bind λc=>match c with
 |.inl _=>(some (.inl (IntKind.i64.wrap (b+(1:Int)),())))
 |.inr d=>some d) else some (.inr (.inl ()))) ((0:Int),())).bind λc=>match c with
 |.inl _=>(some ((0:Int),()))
 |.inr d=>some d))
def Aa:cw->cW:=λ(b,e,_)=>(loop (σ:=cH) (ρ:=cz) (λ(a,_)=>bif decide (a<((b.length:Nat):Int)) then(Option.bind (α:=Unit⊕(cH⊕cz)) ((ay b a).bind λf=>bif decide (f<(0:Int))==false then(ay b a).bind λg=>bif decide (g>=e) then some (.inr (.inr (.inr (false,())))) else some (.inl ()) else some (.inr (.inr (.inr (false,()))))) λc=>match c with
 |.inl _=>(some (.inl (IntKind.i64.wrap (a+(1:Int)),())))
 |.inr d=>some d) else some (.inr (.inl ()))) ((0:Int),())).bind λc=>match c with
 |.inl _=>(some (true,()))
 |.inr d=>some d
def Ab:cD->cW:=λ(b,_)=>(loop (σ:=cH) (ρ:=cz) (λ(a,_)=>bif decide (a<((b.length:Nat):Int)) then((some (0)).bind λc=>(fH a).bind λd=>(gh c d b.length).map λ_=>(c,d)).bind λe=>(ay b a).bind λi=>(wi (((b.take e.2).drop e.1),i,())).bind λ(h,_)=>bif h then some (.inr (.inr (true,()))) else some (.inl (IntKind.i64.wrap (a+(1:Int)),())) else some (.inr (.inl ()))) ((0:Int),())).bind λf=>match f with
 |.inl _=>(some (false,()))
 |.inr g=>some g
def wD:cm->Option cr:=λ(a,_)=>(loop (σ:=cn) (ρ:=cr) (λ(c,g,_)=>bif decide (c<(((a.1).length:Nat):Int)) then(ej (((a.1).length:Nat):Int) (((a.1).length:Nat):Int)).bind λj=>(loop (σ:=(Int×cM×cV×Unit)) (ρ:=(cM×cV×Unit)) (λ(d,h,b,_)=>(ay a.1 c).bind λm=>bif decide (d<((m.length:Nat):Int)) then(ay a.1 c).bind λn=>(ay n d).bind λl=>(bx b.length l).bind λe=>(bi b e λ_=>some (b.set e true)).bind λo=>some (.inl (IntKind.i64.wrap (d+(1:Int)),h,o,())) else some (.inr (h,b,()))) ((0:Int),g,List.replicate j false,())).bind λ(f,i,_)=>(bK (f.length+([i]).length)).bind λ_=>some (.inl (IntKind.i64.wrap (c+(1:Int)),(f++[i]),())) else some (.inr (g,()))) ((0:Int),[],())).bind λ(k,_)=>
 some (k,())
def wE:cH->Option cr:=λ(a,_)=>(loop (σ:=cn) (ρ:=cr) (λ(c,b,_)=>bif decide (c<a) then(ej a a).bind λd=>(bK (b.length+([List.replicate d false]).length)).bind λ_=>some (.inl (IntKind.i64.wrap (c+(1:Int)),(b++[List.replicate d false]),())) else some (.inr (b,()))) ((0:Int),[],())).bind λ(e,_)=>some (e,())
def Ad:cb->Option ck:=λ(e,a,_)=>(uh (e,())).bind λ(j,_)=>(bif j !=(0:Int) then some (([],()),j,()) else(Aa (a,(((e.1).length:Nat):Int),())).bind λ(aL,_)=>bif !aL then some (([],()),(3:Int),()) else(Ab (a,())).bind λ(r,_)=>bif r then some (([],()),(90:Int),()) else(wD (e,())).bind λ(s,_)=>(wE (((a.length:Nat):Int),())).bind λ(t,_)=>(loop (σ:=b5) (ρ:=b6) (λ(c,l,i,_)=>bif decide (c<((a.length:Nat):Int)) then(loop (σ:=b5) (ρ:=b6) (λ(d,k,b,_)=>bif decide (d<((a.length:Nat):Int)) then(bx b.length c).bind λf=>(ay a c).bind λv=>
 (ay s v).bind λw=>(ay a d).bind λx=>(ay w x).bind λy=>((bi b f λm=>some m).bind λn=>bx n.length d).bind λh=>(bi b f λg=>(bi g h λ_=>some (g.set h y)).map λz=>b.set f z).bind λA=>some (.inl (IntKind.i64.wrap (d+(1:Int)),k,A,())) else some (.inr (k,b,()))) ((0:Int),l,i,())).bind λ(u,o,_)=>some (.inl (IntKind.i64.wrap (c+(1:Int)),u,o,())) else some (.inr (l,i,()))) ((0:Int),([],()),t,())).bind λ(_,p,_)=>(wB (p,())).bind λ(q,_)=>some (q,(0:Int),()))
def Ae:cm->Option b8:=λ(a,_)=>(wD (a,())).bind λ(c,_)=>(ej (((a.1).length:Nat):Int) (((a.1).length:Nat):Int)).bind λb=>some ((c,(List.replicate b false,())),())
def wG:(Option ch×Int×Unit)->Option cD:=λ(b,h,_)=>(loop (σ:=cx) (ρ:=cD) (λ(a,d,_)=>b.bind λj=>bif decide (a<(((j.1).length:Nat):Int)) then Option.bind (α:=cD) (Option.bind (α:=(Bool×cZ×Unit)) (b.bind λk=>(ay k.1 h).bind λl=>(ay l a).bind λm=>bif m==true then b.bind λn=>(ay n.2.1 a).bind λi=>some ((!i),d,()) else some (false,d,())) λ(g,c,_)=>bif g then(bK (c.length+([a]).length)).bind λ_=>some ((c++[a]),()) else some (c,())) λ(e,_)=>some (.inl (IntKind.i64.wrap (a+(1:Int)),e,())) else some (.inr (d,()))) ((0:Int),[],())).bind λ(f,_)=>some (f,())
def wF:(ch×Int×Unit)->Option b8:=λ(h,l,_)=>(wG (some h,l,())).bind λ(e,_)=>(loop (σ:=b7) (ρ:=b8) (λ(c,i,_)=>bif decide (c<((e.length:Nat):Int)) then(loop (σ:=b7) (ρ:=b8) (λ(d,a,_)=>bif decide (d<((e.length:Nat):Int)) then Option.bind (α:=b8) (bif c !=d then(ay e c).bind λr=>(bx (a.1).length r).bind λf=>(ay e d).bind λq=>((bi a.1 f λm=>some m).bind λn=>bx n.length q).bind λj=>((bi a.1 f λg=>(bi g j λ_=>some (g.set j true)).map λs=>(a.1).set f s).map λt=>(t,a.2)).bind λu=>some (u,()) else some (a,())) λ(o,_)=>
 some (.inl (IntKind.i64.wrap (d+(1:Int)),o,())) else some (.inr (a,()))) ((0:Int),i,())).bind λ(p,_)=>some (.inl (IntKind.i64.wrap (c+(1:Int)),p,())) else some (.inr (i,()))) ((0:Int),h,())).bind λ(b,_)=>(bx (b.2.1).length l).bind λk=>(((bi b.2.1 k λ_=>some ((b.2.1).set k true)).map λv=>(v,b.2.2)).map λw=>(b.1,w)).bind λx=>some (x,())
def Af:cm->Option cq:=λ(b,_)=>(uh (b,())).bind λ(e,_)=>(bif e !=(0:Int) then some ([],e,()) else(Ae (b,())).bind λ(i,_)=>(loop (σ:=(Int×ch×cO×Unit)) (ρ:=ct) (λ(a,f,c,_)=>bif decide (a<(((b.1).length:Nat):Int)) then(wG (some f,a,())).bind λ(d,_)=>(bK (([a]).length+d.length)).bind λ_=>(bK (c.length+([([a]++d)]).length)).bind λ_=>(wF (f,a,())).bind λ(g,_)=>some (.inl (IntKind.i64.wrap (a+(1:Int)),g,(c++[([a]++d)]),())) else some (.inr (c,()))) ((0:Int),i,[],())).bind λ(h,_)=>some (h,(0:Int),()))
def zL:cw->cW:=λ(b,c,_)=>(bif ((b.length:Nat):Int)!=c then some (false,()) else((ej c c).bind λk=>(loop (σ:=cu) (ρ:=cz) (λ(a,g,_)=>bif decide (a<c) then(Option.bind (α:=cB⊕b9) (Option.bind (α:=cB⊕(cB⊕b9)) ((ay b a).bind λo=>bif decide (o<(0:Int))==false then(ay b a).bind λp=>bif decide (p>=c)==false then(ay b a).bind λq=>(bx g.length q).bind λj=>(bi g j λi=>some i).bind λm=>bif m then some (.inr (.inr (.inr (.inr (false,()))))) else some (.inl (g,())) else some (.inr (.inr (.inr (.inr (false,()))))) else some (.inr (.inr (.inr (.inr (false,())))))) λd=>match d with
 |.inl (f,_)=>((ay b a).bind λn=>(bx f.length n).bind λh=>(bi f h λ_=>some (f.set h true)).bind λr=>some (.inl (r,())))
 |.inr e=>some e) λd=>match d with
 |.inl (l,_)=>(some (.inl (IntKind.i64.wrap (a+(1:Int)),l,())))
 |.inr e=>some e) else some (.inr (.inl ()))) ((0:Int),List.replicate k false,())).bind λd=>match d with
 |.inl _=>(some (true,()))
 |.inr e=>some e))
def wC:cb->Option ck:=λ(a,b,_)=>(uh (a,())).bind λ(c,_)=>(bif c !=(0:Int) then some (([],()),c,()) else bif ((b.length:Nat):Int)!=(((a.1).length:Nat):Int) then some (([],()),(2:Int),()) else(zL (b,(((a.1).length:Nat):Int),())).bind λ(aL,_)=>bif !aL then some (([],()),(90:Int),()) else(Ad (a,b,())).bind λ(d,e,_)=>some (d,e,()))
section
open Go
def x3 (c:cZ->cK) (a:cZ):Option Bool:=bif Nat.ble a.length 1000000 then(c a).bind λb=>bif Nat.ble b.length 1000000 then some (decide ((Lib.compact b).length<a.length)) else none else none
end
def zh:ck->cW:=λ(b,a,_)=>(bif decide (a>=(0:Int))==true then some (decide (a<(((b.1).length:Nat):Int)),()) else some (false,()))
def tV:cH->cX:=λ(a,_)=>Option.bind (α:=cF) (bif decide (a>=(65536:Int)) then(dk IntKind.u32 a (16:Int)).bind λg=>some (g,(16:Int),()) else some (a,(0:Int),())) λ(b,c,_)=>Option.bind (α:=cF) (bif decide (b>=(256:Int)) then(dk IntKind.u32 b (8:Int)).bind λh=>some (h,IntKind.i64.wrap (c+(8:Int)),()) else some (b,c,())) λ(f,e,_)=>(ou AY (IntKind.u8.wrap f)).bind λd=>some (IntKind.i64.wrap (e+IntKind.i64.wrap d),())
def Hm:cH->cX:=λ(a,_)=>Option.bind (α:=cF) (bif decide (a>=(4294967296:Int)) then(dk IntKind.u64 a (32:Int)).bind λi=>some (i,(32:Int),()) else some (a,(0:Int),())) λ(b,d,_)=>Option.bind (α:=cF) (bif decide (b>=(65536:Int)) then(dk IntKind.u64 b (16:Int)).bind λj=>some (j,IntKind.i64.wrap (d+(16:Int)),()) else some (b,d,())) λ(c,e,_)=>Option.bind (α:=cF) (bif decide (c>=(256:Int)) then(dk IntKind.u64 c (8:Int)).bind λk=>some (k,IntKind.i64.wrap (e+(8:Int)),()) else some (c,e,())) λ(h,g,_)=>(ou AY (IntKind.u8.wrap h)).bind λf=>some (IntKind.i64.wrap (g+IntKind.i64.wrap f),())
def CR:cH->cX:=λ(b,_)=>(Hm (b,())).bind λ(a,_)=>some (a,())
def zD:(cZ×Int×Int×Unit)->Option cD:=λ(k,f,j,_)=>(loop (σ:=cx) (ρ:=cD) (λ(d,g,_)=>bif decide (d<j) then(loop (σ:=cx) (ρ:=cD) (λ(a,c,_)=>Option.bind (α:=cD⊕(cx⊕cD)) (bif decide (a>f)==true then(bx c.length a).bind λu=>(bi c u λq=>some q).bind λy=>(bx c.length (IntKind.i64.wrap (a-(1:Int)))).bind λr=>(bi c r λn=>some n).bind λz=>(rV (y,z,())).bind λ(x,_)=>bif x then some (.inl (c,())) else some (.inr (.inr (c,()))) else some (.inr (.inr (c,())))) λv=>match v with
 |.inl (b,_)=>((bx b.length (IntKind.i64.wrap (a-(1:Int)))).bind λs=>(bi b s λo=>some o).bind λA=>(bx b.length a).bind λt=>(bi b t λp=>some p).bind λB=>(bx b.length a).bind λh=>(bi b h λ_=>some (b.set h A)).bind λe=>(bx e.length (IntKind.i64.wrap (a-(1:Int)))).bind λi=>(bi e i λ_=>some (e.set i B)).bind λC=>some (.inl (IntKind.i64.wrap (a-(1:Int)),C,())))
 |.inr w=>some w) (d,g,())).bind λ(l,_)=>some (.inl (IntKind.i64.wrap (d+(1:Int)),l,())) else some (.inr (g,()))) (IntKind.i64.wrap (f+(1:Int)),k,())).bind λ(m,_)=>some (m,())
def zF:(cZ×Int×Int×Int×Unit)->Option cD:=λ(e,c,d,g,_)=>(loop (σ:=(Int×Int×Int×Bool×Bool×cZ×Unit)) (ρ:=cD) (λ(a,b,_,_,_,f,_)=>bif decide (IntKind.i64.wrap (b-a)<=(12:Int)) then(zD (f,a,b,())).bind λ(h,_)=>some (.inr (h,())) else none) (c,d,g,true,true,e,())).bind some
def wc:cD->Option cD:=λ(a,_)=>(CR (IntKind.u64.wrap ((a.length:Nat):Int),())).bind λ(c,_)=>(zF (a,(0:Int),((a.length:Nat):Int),c,())).bind λ(b,_)=>some (b,())
def zg:cZ×Unit->cW:=λa=>(x3 (λc=>(wc (c,())).map λd=>d.1) a.1).map λb=>(b,())
def CP:(Int×Option ct×Unit)->cW:=λ(b,a,_)=>a.bind λc=>(zh (c,b,())).bind λ(aL,_)=>some ((!aL),())
def CV:b4->cX:=λ(b,c,_)=>(loop (σ:=cH) (ρ:=cA) (λ(a,_)=>bif decide (a<((b.length:Nat):Int)) then(ay b a).bind λg=>(CP (g,c.1,())).bind λ(f,_)=>bif f then some (.inr (.inr (a,()))) else some (.inl (IntKind.i64.wrap (a+(1:Int)),())) else some (.inr (.inl ()))) ((0:Int),())).bind λd=>match d with
 |.inl _=>(some ((-1:Int),()))
 |.inr e=>some e
def zB:b4->cW:=λ(c,a,_)=>(CV (c,(a.1,()),())).bind λ(b,_)=>some (decide (b>=(0:Int)),())
def zc:cb->cX:=λ(a,b,_)=>(vW (a,())).bind λ(c,_)=>(bif c !=(0:Int) then some (c,()) else bif ((b.length:Nat):Int)!=(((a.1).length:Nat):Int) then some ((2:Int),()) else(zB (b,(some a,()),())).bind λ(aL,_)=>bif aL==false then(zg (b,())).bind λ(d,_)=>bif d then some ((90:Int),()) else some ((0:Int),()) else some ((90:Int),()))
def vY:cH->Option cr:=λ(a,_)=>(ej a a).bind λe=>(loop (σ:=cn) (ρ:=cr) (λ(c,b,_)=>bif decide (c<((((List.replicate e []):cM).length:Nat):Int)) then(ej a a).bind λf=>(bx b.length c).bind λd=>(bi b d λ_=>some (b.set d (List.replicate f false))).bind λh=>some (.inl (IntKind.i64.wrap (c+(1:Int)),h,())) else some (.inr (b,()))) ((0:Int),List.replicate e [],())).bind λ(g,_)=>some (g,())
def v5:(cM×Int×Int×Unit)->Option cr:=λ(a,d,e,_)=>(bif d !=e then(bx a.length d).bind λb=>(bx a.length e).bind λc=>((bi a b λm=>some m).bind λn=>bx n.length e).bind λi=>(bi a b λg=>(bi g i λ_=>some (g.set i true)).map λo=>a.set b o).bind λf=>((bi f c λk=>some k).bind λl=>bx l.length d).bind λj=>(bi f c λh=>(bi h j λ_=>some (h.set j true)).map λp=>f.set c p).bind λq=>some (q,()) else some (a,()))
def zd:(cM×Int×Unit)->Option cD:=λ(f,g,_)=>(ay f g).bind λc=>(loop (σ:=cx) (ρ:=cD) (λ(a,b,_)=>bif decide (a<((c.length:Nat):Int)) then Option.bind (α:=cD) ((ay c a).bind λh=>bif h then(bK (b.length+([a]).length)).bind λ_=>some ((b++[a]),()) else some (b,())) λ(d,_)=>some (.inl (IntKind.i64.wrap (a+(1:Int)),d,())) else some (.inr (b,()))) ((0:Int),[],())).bind λ(e,_)=>some (e,())
def v2:cr->Option cm:=λ(b,_)=>(ej ((b.length:Nat):Int) ((b.length:Nat):Int)).bind λg=>(loop (σ:=b2) (ρ:=b3) (λ(c,e,a,_)=>bif decide (c<((b.length:Nat):Int)) then(zd (b,c,())).bind λ(h,_)=>(bx (a.1).length c).bind λd=>((bi a.1 d λ_=>some ((a.1).set d h)).map λi=>(i,a.2)).bind λj=>some (.inl (IntKind.i64.wrap (c+(1:Int)),e,j,())) else some (.inr (e,a,()))) ((0:Int),([],()),(List.replicate g [],()),())).bind λ(_,f,_)=>some (f,())
def zf:cb->Option cm:=λ(k,a,_)=>(vY (((a.length:Nat):Int),())).bind λ(o,_)=>(loop (σ:=b5) (ρ:=b6) (λ(b,i,j,_)=>bif decide (b<((a.length:Nat):Int)) then(ay a b).bind λv=>((some (0)).bind λg=>(fH b).bind λh=>(gh g h a.length).map λ_=>(g,h)).bind λc=>(loop (σ:=b5) (ρ:=b6) (λ(d,e,f,_)=>bif decide (d<((((a.take c.2).drop c.1).length:Nat):Int)) then Option.bind (α:=b6) ((ay ((a.take c.2).drop c.1) d).bind λu=>(tQ (k,v,u,())).bind λ(m,_)=>bif m then(v5 (f,b,d,())).bind λ(l,_)=>some (e,l,()) else some (e,f,())) λ(p,q,_)=>
 some (.inl (IntKind.i64.wrap (d+(1:Int)),p,q,())) else some (.inr (e,f,()))) ((0:Int),i,j,())).bind λ(r,s,_)=>some (.inl (IntKind.i64.wrap (b+(1:Int)),r,s,())) else some (.inr (i,j,()))) ((0:Int),([],()),o,())).bind λ(_,t,_)=>(v2 (t,())).bind λ(n,_)=>some (n,())
def vZ:cb->Option ck:=λ(a,b,_)=>(zc (a,b,())).bind λ(c,_)=>(bif c !=(0:Int) then some (([],()),c,()) else(zf (a,b,())).bind λ(aL,_)=>some (aL,(0:Int),()))
def tM:cF->cX:=λ(a,b,_)=>(qe (a,())).bind λ(c,_)=>(qe (b,())).bind λ(aL,_)=>(bif c then bif aL then some ((0:Int),()) else some ((-1:Int),()) else bif aL then some ((1:Int),()) else bif decide (a<b) then some ((-1:Int),()) else bif decide (a>b) then some ((1:Int),()) else some ((0:Int),()))
def yU:cD->cX:=λ(b,_)=>(loop (σ:=cH) (ρ:=cA) (λ(a,_)=>bif decide (a<((b.length:Nat):Int)) then(ay b a).bind λc=>bif c !=(0:Int) then some (.inr (.inr (c,()))) else some (.inl (IntKind.i64.wrap (a+(1:Int)),())) else some (.inr (.inl ()))) ((0:Int),())).bind λd=>match d with
 |.inl _=>(some ((0:Int),()))
 |.inr e=>some e
abbrev aQ:Type:=cZ
abbrev eF:Type:=(aQ×Unit)
abbrev bW:Type:=(Bool×eF)
abbrev bb:Type:=cH
abbrev bD:Type:=(Bool×(bW×bb))
abbrev Gg:Type:=(aQ×(aQ×eF))
abbrev fF:Type:=(List bD)
abbrev fM:Type:=(Int×(Int×(fF×Unit)))
abbrev jL:Type:=(List (Int×(Int×bb)))
abbrev kH:Type:=(List aQ×(List aQ×(List (Option (List (Int×bD)×Nat))×(List aQ×Unit))))
abbrev bF:Type:=(Int×(Int×Gg))
abbrev he:Type:=(Int×(Int×eF))
abbrev dR:Type:=cG
abbrev ma:Type:=(Int×((List aQ×Unit)×(List (Option (List (Int×bD)×Nat))×Unit)))
abbrev dY:Type:=(aQ×Gg)
abbrev ee:Type:=(bD×Unit)
abbrev ez:Type:=(bW×Unit)
abbrev hH:Type:=(bD×bD×Unit)
abbrev gZ:Type:=(Int×aQ×Unit)
abbrev hI:Type:=cV
abbrev rF:Type:=(dY×Int×Int×Unit)
abbrev hZ:Type:=(Unit⊕dR)
abbrev ys:Type:=(Int×fM×fM×Unit)
abbrev iP:Type:=(jL×Unit)
abbrev p0:Type:=(fM×fM×Unit)
abbrev tw:Type:=(Int×dY×List aQ×dY×Unit)
abbrev oN:Type:=(Int×jL×Unit)
abbrev h0:Type:=(aQ×aQ×Unit)
abbrev iQ:Type:=(bW×bW×Unit)
abbrev iw:Type:=(Unit⊕bb)
abbrev mb:Type:=(aQ×Int×Unit)
abbrev k6:Type:=cF
abbrev yt:Type:=(fM×Int×Unit)
abbrev Cn:Type:=(Int×Int×jL×Unit)
abbrev p1:Type:=(Bool×(bW×(Int×dR)))
abbrev nQ:Type:=(Int×Int×aQ×Unit)
abbrev mU:Type:=(bW×Int×Unit)
abbrev Co:Type:=((dY×List aQ×dY×Unit)⊕(tw⊕((dY×dY×Unit)⊕rF)))
abbrev k7:Type:=(bF×Unit)
def kJ:eF->Option eF:=λ(c,_)=>(loop (σ:=bb) (ρ:=bb) (λ(a,_)=>Option.bind (α:=Unit⊕(bb⊕bb)) (bif decide (a>0)==true then(ay c (au (a-1))).bind λj=>bif j==0 then some (.inl ()) else some (.inr (.inr (a,()))) else some (.inr (.inr (a,())))) λh=>match h with
 |.inl _=>(some (.inl (au (a-1),())))
 |.inr i=>some i) (aq c,())).bind λ(f,_)=>(loop (σ:=gZ) (ρ:=eF) (λ(b,d,_)=>bif decide (b<f) then(ay c b).bind λe=>(bK (d.length+([e]).length)).bind λ_=>some (.inl (aS b,(d++[e]),())) else some (.inr (d,()))) (0,[],())).bind λ(g,_)=>some (g,())
def kn:(Bool×aQ×Unit)->Option ez:=λ(c,b,_)=>(kJ (b,())).bind λ(a,_)=>(bif c==true then some ((decide (aq a>0),(a,())),()) else some ((false,(a,())),()))
def o0:bb->Option ez:=λ(a,_)=>Option.bind (α:=(Int×bW×Unit)) (bif decide (a<0) then some (aF (aF (au (0-aS a))+1),(false,([],())),()) else some (aF a,(false,([],())),())) λ(b,_,_)=>(dk IntKind.u64 b 32).bind λd=>(kn (decide (a<0),[bX b,bX d],())).bind λ(c,_)=>some (c,())
def nZ:ez->Option ez:=λ(a,_)=>(kn (a.1,a.2.1,())).bind λ(b,_)=>some (b,())
def qm:Unit->Option ee:=λ_=>some ((true,((false,([],())),((0:Int),()))),())
def tW:bb->Option bb:=λ(a,_)=>(bif a==0 then some (32,()) else(dk IntKind.u32 (bX (dr IntKind.u32 a (bX (0-a))*125613361)) 27).bind λb=>(ay nW b).bind λc=>some (au c,()))
def o1:ez->Option bb:=λ(c,_)=>(kJ (c.2.1,())).bind λ(b,_)=>(loop (σ:=bb) (ρ:=iw) (λ(a,_)=>bif decide (a<aq b) then(ay b a).bind λg=>bif g !=0 then(ay b a).bind λh=>(tW (h,())).bind λ(f,_)=>some (.inr (.inr (au (au (32*a)+f),()))) else some (.inl (aS a,())) else some (.inr (.inl ()))) (0,())).bind λd=>match d with
 |.inl _=>(some (0,()))
 |.inr e=>some e
def oY:ez->Option ez:=λ(a,_)=>(kn (false,a.2.1,())).bind λ(b,_)=>some (b,())
def ub:mb->Option eF:=λ(f,g,_)=>(gm IntKind.i64 g 32).bind λi=>(ej i i).bind λj=>(loop (σ:=nQ) (ρ:=gZ) (λ(a,b,c,_)=>bif decide (b<aq f) then(ay f b).bind λl=>(gU g 32).bind λm=>(gn IntKind.u64 (aF l) m).bind λd=>(bK (c.length+([bX (eA IntKind.u64 a d)]).length)).bind λ_=>(dk IntKind.u64 (eA IntKind.u64 a d) 32).bind λk=>some (.inl (k,aS b,(c++[bX (eA IntKind.u64 a d)]),())) else some (.inr (a,c,()))) (0,0,List.replicate j (0:Int),())).bind λ(e,h,_)=>(bK (h.length+([bX e]).length)).bind λ_=>some ((h++[bX e]),())
def uc:mb->Option (aQ×Bool×Unit):=λ(b,d,_)=>(loop (σ:=cE) (ρ:=dR) (λ(e,c,_)=>Option.bind (α:=Unit⊕(cE⊕dR)) ((gm IntKind.i64 d 32).bind λw=>bif decide (c<w)==true then bif decide (c<aq b) then some (.inl ()) else some (.inr (.inr (e,()))) else some (.inr (.inr (e,())))) λt=>match t with
 |.inl _=>(Option.bind (α:=dR) (bif e==false then(ay b c).bind λx=>some ((x !=0),()) else some (true,())) λ(m,_)=>some (.inl (m,aS c,())))
 |.inr u=>some u) (false,0,())).bind λ(n,_)=>(gU d 32).bind λj=>(gm IntKind.i64 d 32).bind λy=>(loop (σ:=(Bool×Int×aQ×Unit)) (ρ:=(Bool×aQ×Unit)) (λ(f,a,g,_)=>bif decide (a<aq b) then Option.bind (α:=(Bool×aQ×Unit)) ((ay b a).bind λk=>Option.bind (α:=gZ) (bif decide (aS a<aq b) then(ay b (aS a)).bind λz=>(gn IntKind.u64 (aF z) 32).bind λA=>some (eA IntKind.u64 (aF k) A,g,()) else some (aF k,g,())) λ(v,h,_)=>Option.bind (α:=(Bool×aQ×Unit)) ((gm IntKind.i64 d 32).bind λB=>bif (a==B)==true then(ay b a).bind λC=>(gn IntKind.u32 1 j).bind λD=>bif dr IntKind.u32 C (bX (D-1))!=0 then some (true,h,()) else some (f,h,()) else some (f,h,())) λ(o,i,_)=>(dk IntKind.u64 v j).bind λl=>(bK (i.length+([bX l]).length)).bind λ_=>some (o,(i++[bX l]),())) λ(p,r,_)=>some (.inl (p,aS a,r,())) else
 some (.inr (f,g,()))) (n,y,[],())).bind λ(q,s,_)=>some (s,q,())
def wm:ez->Option ez:=λ(a,_)=>(kn ((!a.1),a.2.1,())).bind λ(b,_)=>some (b,())
def zQ:h0->Option eF:=λ(b,c,_)=>(loop (σ:=nQ) (ρ:=gZ) (λ(e,a,f,_)=>bif decide (a<(if(aq c)>aq b then aq c else aq b)) then Option.bind (α:=gZ) (Option.bind (α:=gZ) (bif decide (a<aq b) then(ay b a).bind λo=>some (aF (e+aF o),f,()) else some (e,f,())) λ(h,k,_)=>Option.bind (α:=gZ) (bif decide (a<aq c) then(ay c a).bind λp=>some (aF (h+aF p),k,()) else some (h,k,())) λ(d,i,_)=>(bK (i.length+([bX d]).length)).bind λ_=>(dk IntKind.u64 d 32).bind λn=>some (n,(i++[bX d]),())) λ(l,m,_)=>some (.inl (l,aS a,m,())) else some (.inr (e,f,()))) (0,0,[],())).bind λ(g,j,_)=>(bK (j.length+([bX g]).length)).bind λ_=>some ((j++[bX g]),())
def wo:h0->Option bb:=λ(b,c,_)=>(bif aq b !=aq c then bif decide (aq b<aq c) then some ((-1:Int),()) else some (1,()) else((loop (σ:=bb) (ρ:=iw) (λ(a,_)=>bif decide (a>=0) then(ay b a).bind λf=>(ay c a).bind λg=>bif f !=g then(ay b a).bind λh=>(ay c a).bind λi=>bif decide (h<i) then some (.inr (.inr ((-1:Int),()))) else some (.inr (.inr (1,()))) else some (.inl (au (a-1),())) else some (.inr (.inl ()))) (au (aq b-1),())).bind λd=>match d with
 |.inl _=>(some (0,()))
 |.inr e=>some e))
def wq:h0->Option eF:=λ(d,e,_)=>(loop (σ:=nQ) (ρ:=eF) (λ(f,a,b,_)=>bif decide (a<aq d) then Option.bind (α:=gZ) ((ay d a).bind λh=>Option.bind (α:=gZ) (bif decide (a<aq e) then(ay e a).bind λm=>some (aF (aF (aF h-f)-aF m),b,()) else some (aF (aF h-f),b,())) λ(c,g,_)=>(bK (g.length+([bX c]).length)).bind λ_=>(dk IntKind.u64 c 63).bind λl=>some (l,(g++[bX c]),())) λ(i,j,_)=>some (.inl (i,aS a,j,())) else some (.inr (b,()))) (0,0,[],())).bind λ(k,_)=>some (k,())
def m0:iQ->Option ez:=λ(a,c,_)=>(kJ (a.2.1,())).bind λ(b,_)=>(kJ (c.2.1,())).bind λ(aL,_)=>(bif a.1==c.1 then(zQ (b,aL,())).bind λ(f,_)=>(kn (a.1,f,())).bind λ(g,_)=>some (g,()) else(wo (b,aL,())).bind λ(h,_)=>bif decide (h>=0) then(wq (b,aL,())).bind λ(i,_)=>(kn (a.1,i,())).bind λ(j,_)=>some (j,()) else(wq (aL,b,())).bind λ(d,_)=>(kn (c.1,d,())).bind λ(e,_)=>some (e,()))
def ua:iQ->Option ez:=λ(a,b,_)=>(wm (b,())).bind λ(c,_)=>(m0 (a,c,())).bind λ(aL,_)=>some (aL,())
def jR:mU->Option ez:=λ(f,b,_)=>(nZ (f,())).bind λ(a,_)=>(bif decide (b>=0) then(ub (a.2.1,b,())).bind λ(aL,_)=>(kn (a.1,aL,())).bind λ(j,_)=>some (j,()) else(uc (a.2.1,au (0-b),())).bind λ(k,l,_)=>(kn (a.1,k,())).bind λ(d,_)=>Option.bind (α:=iQ) (Option.bind (α:=(Bool×bW×bW×Unit)) (bif a.1==true then some (l,(false,([],())),d,()) else some (false,(false,([],())),d,())) λ(m,e,c,_)=>bif m then(o0 (1,())).bind λ(h,_)=>(ua (c,h,())).bind λ(i,_)=>some (e,i,()) else some (e,c,())) λ(_,g,_)=>some (g,()))
def uf:mU->Option ez:=λ(d,f,_)=>(loop (σ:=(Int×bW×bW×Unit)) (ρ:=(Int×bW×bW×Unit)) (λ(a,b,c,_)=>bif decide (a>1048576) then(jR (b,(-1048576:Int),())).bind λ(i,_)=>some (.inl (au (a-1048576),i,c,())) else some (.inr (a,b,c,()))) (f,d,(false,([],())),())).bind λ(g,e,_,_)=>(jR (e,au (0-g),())).bind λ(h,_)=>some (h,())
def oZ:ez->Option bb:=λ(b,_)=>(kJ (b.2.1,())).bind λ(a,_)=>(bif aq a==0 then some (0,()) else(ay a (au (aq a-1))).bind λc=>(tV (c,())).bind λ(aL,_)=>some (au (au (32*au (aq a-1))+aL),()))
def mi:mU->Option ee:=λ(e,a,_)=>(nZ (e,())).bind λ(c,_)=>(bif aq c.2.1==0 then some ((false,((false,([],())),((0:Int),()))),()) else bif decide (a>65536) then(qm ()).bind λ(aL,_)=>some (aL,()) else((o1 (c,())).bind λ(b,_)=>(oY (c,())).bind λ(k,_)=>(uf (k,b,())).bind λ(d,_)=>Option.bind (α:=(bD×bW×Unit)⊕ee) (Option.bind (α:=(Bool×bD×bW×Unit)) (bif decide (au (a+b)<(-65536:Int))==false then(oZ (d,())).bind λ(l,_)=>some (decide (au (au (a+b)+l)>65536),(false,((false,([],())),((0:Int),()))),d,()) else some (true,(false,((false,([],())),((0:Int),()))),d,())) λ(n,m,f,_)=>bif n then(qm ()).bind λ(j,_)=>some (.inr (j,())) else some (.inl (m,f,()))) λh=>match h with
 |.inl (_,g,_)=>(some ((false,((e.1,g.2),(au (a+b),()))),()))
 |.inr i=>some i))
def wv:bb->Option ee:=λ(a,_)=>(o0 (a,())).bind λ(b,_)=>(mi (b,0,())).bind λ(c,_)=>some (c,())
def iU:ee->Option ee:=λ(a,_)=>(bif a.1 then(qm ()).bind λ(b,_)=>some (b,()) else(mi (a.2.1,a.2.2.1,())).bind λ(c,_)=>some (c,()))
def iT:ez->Option bb:=λ(b,_)=>(nZ (b,())).bind λ(a,_)=>(bif aq a.2.1==0 then some (0,()) else bif a.1 then some ((-1:Int),()) else some (1,()))
def o3:cE->Option bb:=λ(b,a,_)=>(bif b then some (eA IntKind.u64 a 9223372036854775808,()) else some (a,()))
def wy:cE->Option bb:=λ(a,b,_)=>Option.bind (α:=Unit⊕bb) (Option.bind (α:=dR) (bif (b==3)==false then bif (b==1)==true then bif (!a)==false then bif (b==2)==true then some (a,()) else some (false,()) else some (true,()) else bif (b==2)==true then some (a,()) else some (false,()) else some (true,())) λ(f,_)=>bif f then(o3 (a,9218868437227405311,())).bind λ(aL,_)=>some (.inr (aL,())) else some (.inl ())) λc=>match c with
 |.inl _=>((o3 (a,9218868437227405312,())).bind λ(e,_)=>some (e,()))
 |.inr d=>some d
def wk:mU->Option dR:=λ(a,b,_)=>(kJ (a.2.1,())).bind λ(c,_)=>(uc (c,b,())).bind λ(_,d,_)=>some (d,())
def z1:(Bool×Int×Bool×Int×Unit)->Option dR:=λ(c,b,d,a,_)=>(bif a==1 then some (c,()) else bif a==2 then some ((!c),()) else bif a==3 then some (false,()) else bif decide (b>0)==false then bif (b==0)==true then some (d,()) else some (false,()) else some (true,()))
def zV:(Bool×bW×Int×Bool×Int×Unit)->Option ez:=λ(q,b,a,h,p,_)=>(uf (b,a,())).bind λ(l,_)=>(wk (b,a,())).bind λ(D,_)=>Option.bind (α:=iQ⊕ez) (Option.bind (α:=(Bool×bW×bW×Unit)) (bif (!D)==true then some ((!h),(false,([],())),l,()) else some (false,(false,([],())),l,())) λ(F,G,i,_)=>bif F then some (.inr (i,())) else some (.inl (G,i,()))) λs=>match s with
 |.inl (g,f,_)=>(Option.bind (α:=(Int×bW×bW×Unit)) (bif decide (a>0) then(uf (b,au (a-1),())).bind λ(k,_)=>Option.bind (α:=(Bool×bW×bW×Unit)) ((o1 (k,())).bind λ(v,_)=>bif (v==0)==true then(iT (k,())).bind λ(w,_)=>some ((w !=0),g,f,()) else some (false,g,f,())) λ(E,e,c,_)=>bif E then bif h==false then(wk (b,au (a-1),())).bind λ(x,_)=>bif x then some (1,e,c,()) else some (0,e,c,()) else some (1,e,c,()) else some ((-1:Int),e,c,()) else some ((-1:Int),g,f,())) λ(o,m,d,_)=>Option.bind (α:=(Bool×bW×bW×Unit)) ((iT (d,())).bind λ(y,_)=>bif (y !=0)==true then(o1 (d,())).bind λ(z,_)=>some ((z==0),m,d,()) else some (false,m,d,())) λ(r,n,j,_)=>Option.bind (α:=iQ) ((z1 (q,o,r,p,())).bind λ(A,_)=>
  bif A then(o0 (1,())).bind λ(B,_)=>(m0 (j,B,())).bind λ(C,_)=>some (n,C,()) else some (n,j,())) λ(_,t,_)=>some (t,()))
 |.inr u=>some u
def zO:ez->Option cC:=λ(f,_)=>(nZ (f,())).bind λ(d,_)=>(bif decide (aq d.2.1>2) then some (0,false,()) else(loop (σ:=(Int×Int×bW×Unit)) (ρ:=(Int×bW×Unit)) (λ(e,b,a,_)=>bif decide (b<aq a.2.1) then(ay a.2.1 b).bind λh=>(gn IntKind.u64 (aF h) (au (32*b))).bind λi=>some (.inl (eA IntKind.u64 e i,aS b,a,())) else some (.inr (e,a,()))) (0,0,d,())).bind λ(c,g,_)=>bif g.1 then bif decide (c>9223372036854775808) then some (0,false,()) else some (au (au (0-au (aF (c-1)))-1),true,()) else bif decide (c>9223372036854775807) then some (0,false,()) else some (au c,true,()))
def ug:(Bool×bW×Int×Bool×Int×Unit)->Option bb:=λ(c,e,a,i,f,_)=>(oZ (e,())).bind λ(b,_)=>(bif decide (au (au (a+b)-1)>=1024) then(wy (c,f,())).bind λ(p,_)=>some (p,()) else(Option.bind (α:=ez) (bif decide ((if(-1074:Int)>au (au (au (a+b)-1)-52) then(-1074:Int) else au (au (au (a+b)-1)-52))>=a) then(zV (c,e,au ((if(-1074:Int)>au (au (au (a+b)-1)-52) then(-1074:Int) else au (au (au (a+b)-1)-52))-a),i,f,())).bind λ(q,_)=>some (q,()) else(jR (e,au (a-(if(-1074:Int)>au (au (au (a+b)-1)-52) then(-1074:Int) else au (au (au (a+b)-1)-52))),())).bind λ(r,_)=>some (r,())) λ(j,_)=>(zO (j,())).bind λ(g,_,_)=>Option.bind (α:=k6) (bif g==9007199254740992 then some (aS (if(-1074:Int)>au (au (au (a+b)-1)-52) then(-1074:Int) else au (au (au (a+b)-1)-52)),4503599627370496,()) else
 some ((if(-1074:Int)>au (au (au (a+b)-1)-52) then(-1074:Int) else au (au (au (a+b)-1)-52)),g,())) λ(h,d,_)=>Option.bind (α:=Unit⊕bb) (Option.bind (α:=dR) (bif decide (d>=4503599627370496)==true then some (decide (au (h+53)>1024),()) else some (false,())) λ(s,_)=>bif s then(wy (c,f,())).bind λ(m,_)=>some (.inr (m,())) else bif decide (d>=4503599627370496) then(gn IntKind.u64 (aF (au (h+1075))) 52).bind λt=>(o3 (c,eA IntKind.u64 t (aF (au (d-4503599627370496))),())).bind λ(n,_)=>some (.inr (n,())) else some (.inl ())) λk=>match k with
 |.inl _=>((o3 (c,aF d,())).bind λ(o,_)=>some (o,()))
 |.inr l=>some l))
def wx:(bD×Int×Unit)->Option bb:=λ(b,c,_)=>(iU (b,())).bind λ(a,_)=>(bif a.1 then some (9221120237041090560,()) else(iT (a.2.1,())).bind λ(aL,_)=>bif aL==0 then some (0,()) else(oY (a.2.1,())).bind λ(d,_)=>(ug (a.2.1.1,d,a.2.2.1,false,c,())).bind λ(e,_)=>some (e,()))
def r6:k6->Option bb:=λ(b,a,_)=>(wv (b,())).bind λ(c,_)=>(wx (c,a,())).bind λ(aL,_)=>some (aL,())
def tP:bb->Option k6:=λ(a,_)=>(dk IntKind.u64 a 52).bind λb=>some (au (dr IntKind.u64 b 2047),dr IntKind.u64 a 4503599627370495,())
def qg:bb->Option dR:=λ(a,_)=>(tP (a,())).bind λ(b,_,_)=>some ((b !=2047),())
def gJ:eF->Option eF:=λ(b,_)=>(loop (σ:=bb) (ρ:=bb) (λ(a,_)=>Option.bind (α:=Unit⊕(bb⊕bb)) (bif decide (a>0)==true then(ay b (au (a-1))).bind λi=>bif i==0 then some (.inl ()) else some (.inr (.inr (a,()))) else some (.inr (.inr (a,())))) λg=>match g with
 |.inl _=>(some (.inl (au (a-1),())))
 |.inr h=>some h) (aq b,())).bind λ(f,_)=>((some (0)).bind λc=>(fH f).bind λd=>(gh c d b.length).map λ_=>(c,d)).bind λe=>some (((b.take e.2).drop e.1),())
def jQ:(Bool×aQ×Unit)->Option ez:=λ(c,b,_)=>(gJ (b,())).bind λ(a,_)=>(bif aq a==0 then some ((false,(([]:aQ),())),()) else some ((c,(a,())),()))
def rZ:bb->Option ez:=λ(a,_)=>Option.bind (α:=(Int×bW×Unit)) (bif decide (a<0) then some (aF (0-aF a),(false,([],())),()) else some (aF a,(false,([],())),())) λ(b,_,_)=>(dk IntKind.u64 b 32).bind λd=>(jQ (decide (a<0),[bX (dr IntKind.u64 b 4294967295),bX d],())).bind λ(c,_)=>some (c,())
def za:bb->Option dR:=λ(a,_)=>some ((dr IntKind.u64 a 9223372036854775808 !=0),())
def r4:eF->Option eF:=λ(a,_)=>mz a.length (some ([],())) ((bK (([]:aQ).length+a.length)).bind λ_=>some (([]++a),()))
def qi:ez->Option ez:=λ(a,_)=>(r4 (a.2.1,())).bind λ(b,_)=>(jQ ((!a.1),b,())).bind λ(c,_)=>some (c,())
def tN:Unit->Option ee:=λ_=>some ((true,((false,([],())),((0:Int),()))),())
def zk:ez->Option ez:=λ(a,_)=>(r4 (a.2.1,())).bind λ(b,_)=>(jQ (a.1,b,())).bind λ(c,_)=>some (c,())
def mZ:ez->Option bb:=λ(a,_)=>(gJ (a.2.1,())).bind λ(b,_)=>(bif aq b==0 then some (0,()) else bif a.1 then some ((-1:Int),()) else some (1,()))
def v8:ez->Option bb:=λ(b,_)=>(loop (σ:=bb) (ρ:=iw) (λ(a,_)=>bif decide (a<aq b.2.1) then(ay b.2.1 a).bind λc=>bif c !=0 then(tW (c,())).bind λ(aL,_)=>some (.inr (.inr (au (au (a*32)+aL),()))) else some (.inl (aS a,())) else some (.inr (.inl ()))) (0,())).bind λd=>match d with
 |.inl _=>(some (0,()))
 |.inr e=>some e
def tT:eF->Option bb:=λ(a,_)=>(bif aq a==0 then some (0,()) else(ay a (au (aq a-1))).bind λc=>(tV (c,())).bind λ(b,_)=>some (au (au (au (aq a-1)*32)+b),()))
def oW:ez->Option bb:=λ(a,_)=>(gJ (a.2.1,())).bind λ(b,_)=>(tT (b,())).bind λ(c,_)=>some (c,())
def r2:mb->Option eF:=λ(b,e,_)=>(bif aq b==0 then some ([],()) else(gm IntKind.i64 e 32).bind λc=>(gU e 32).bind λj=>(ej (aS (au (c+aq b))) (aS (au (c+aq b)))).bind λg=>(loop (σ:=gZ) (ρ:=eF) (λ(a,d,_)=>bif decide (a<aq b) then(ay b a).bind λk=>(gn IntKind.u64 (aF k) (aF j)).bind λf=>rd d (au (c+a)) λl=>wr d (au (c+a)) (eA IntKind.u32 l (bX (dr IntKind.u64 f 4294967295))) λn=>(dk IntKind.u64 f 32).bind λm=>wr n (aS (au (c+a))) (bX m) λo=>some (.inl (aS a,o,())) else some (.inr (d,()))) (0,List.replicate g (0:Int),())).bind λ(h,_)=>(gJ (h,())).bind λ(i,_)=>some (i,()))
def CQ:bb->Option dR:=λ(a,_)=>some ((a !=0),())
def CW:(aQ×Unit×Unit)->Option bb:=λ(b,_,_)=>(loop (σ:=bb) (ρ:=iw) (λ(a,_)=>bif decide (a<aq b) then(ay b a).bind λf=>(CQ (f,())).bind λ(e,_)=>bif e then some (.inr (.inr (a,()))) else some (.inl (aS a,())) else some (.inr (.inl ()))) (0,())).bind λc=>match c with
 |.inl _=>(some ((-1:Int),()))
 |.inr d=>some d
def wb:(aQ×Unit×Unit)->Option dR:=λ(b,_,_)=>(CW (b,(),())).bind λ(a,_)=>some (decide (a>=0),())
def tS:mb->Option (aQ×Bool×Unit):=λ(a,h,_)=>(gm IntKind.i64 h 32).bind λb=>(gU h 32).bind λj=>(bif decide (b>=aq a) then some ([],decide (aq a>0),()) else Option.bind (α:=dR) (((some (0)).bind λe=>(fH b).bind λf=>(gh e f a.length).map λ_=>(e,f)).bind λi=>(wb (((a.take i.2).drop i.1),(),())).bind λ(p,_)=>bif p==false then(ay a b).bind λs=>(gn IntKind.u32 1 (aF j)).bind λt=>some ((dr IntKind.u32 s (bX (t-1))!=0),()) else some (true,())) λ(l,_)=>(ej (au (aq a-b)) (au (aq a-b))).bind λg=>(loop (σ:=gZ) (ρ:=eF) (λ(c,d,_)=>bif decide (c<aq (List.replicate g (0:Int))) then Option.bind (α:=eF) ((ay a (au (b+c))).bind λk=>Option.bind (α:=gZ) (bif decide (aS (au (b+c))<aq a) then(ay a (aS (au (b+c)))).bind λu=>(gn IntKind.u64 (aF u) 32).bind λv=>some (eA IntKind.u64 (aF k) v,d,()) else some (aF k,d,())) λ(r,m,_)=>
 (dk IntKind.u64 r (aF j)).bind λw=>wr m c (bX (dr IntKind.u64 w 4294967295)) λx=>some (x,())) λ(n,_)=>some (.inl (aS c,n,())) else some (.inr (d,()))) (0,List.replicate g (0:Int),())).bind λ(o,_)=>(gJ (o,())).bind λ(q,_)=>some (q,l,()))
def r1:h0->Option eF:=λ(b,d,_)=>Option.bind (α:=h0) (bif decide (aq b<aq d) then some (d,b,()) else some (b,d,())) λ(c,h,_)=>(ej 0 (aS (aq c))).bind λn=>(loop (σ:=nQ) (ρ:=gZ) (λ(e,a,f,_)=>bif decide (a<aq c) then Option.bind (α:=gZ) ((ay c a).bind λl=>Option.bind (α:=gZ) (bif decide (a<aq h) then(ay h a).bind λq=>some (aF (aF (aF l+e)+aF q),f,()) else some (aF (aF l+e),f,())) λ(g,j,_)=>(bK (j.length+([bX (dr IntKind.u64 g 4294967295)]).length)).bind λ_=>(dk IntKind.u64 g 32).bind λr=>some (r,(j++[bX (dr IntKind.u64 g 4294967295)]),())) λ(m,o,_)=>some (.inl (m,aS a,o,())) else some (.inr (e,f,()))) (0,0,List.replicate n (0:Int),())).bind λ(i,k,_)=>(bK (k.length+([bX i]).length)).bind λ_=>(gJ ((k++[bX i]),())).bind λ(p,_)=>some (p,())
def oX:mU->Option mU:=λ(b,a,_)=>Option.bind (α:=ez⊕mU) (Option.bind (α:=(Bool×bW×Unit)) (bif decide (a<(-1048576:Int))==false then some (decide (a>1048576),(false,([],())),()) else some (true,(false,([],())),())) λ(p,q,_)=>bif p then some (.inr ((false,(([]:aQ),())),3,())) else some (.inl (q,()))) λh=>match h with
 |.inl (f,_)=>((gJ (b.2.1,())).bind λ(c,_)=>bif decide (a>=0) then(r2 (c,a,())).bind λ(m,_)=>(jQ (b.1,m,())).bind λ(n,_)=>some (n,0,()) else(tS (c,au (0-a),())).bind λ(d,j,_)=>Option.bind (α:=(aQ×bW×Unit)) (Option.bind (α:=(Bool×bW×Unit)) (bif b.1==true then some (j,f,()) else some (false,f,())) λ(o,e,_)=>bif o then(r1 (d,[1],())).bind λ(k,_)=>some (k,e,()) else some (d,e,())) λ(g,_,_)=>(jQ (b.1,g,())).bind λ(l,_)=>some (l,0,()))
 |.inr i=>some i
def vU:mU->Option ez:=λ(d,f,_)=>(loop (σ:=(Int×bW×bW×Unit)) (ρ:=(Int×bW×bW×Unit)) (λ(a,b,c,_)=>bif decide (a>1048576) then(oX (b,(-1048576:Int),())).bind λ(i,_,_)=>some (.inl (au (a-1048576),i,c,())) else some (.inr (a,b,c,()))) (f,d,(false,([],())),())).bind λ(g,e,_,_)=>(oX (e,au (0-g),())).bind λ(h,_,_)=>some (h,())
def mh:ee->Option (bD×Bool×Unit):=λ(a,_)=>(bif a.1 then(tN ()).bind λ(j,_)=>some (j,false,()) else(zk (a.2.1,())).bind λ(b,_)=>(mZ (b,())).bind λ(aL,_)=>bif aL==0 then some ((false,((false,([],())),((0:Int),()))),true,()) else((v8 (b,())).bind λ(c,_)=>Option.bind (α:=(bD×bW×Unit)⊕(bD×Bool×Unit)) (Option.bind (α:=(Bool×bD×bW×Unit)) ((oW (b,())).bind λ(k,_)=>bif decide (a.2.2.1>au (65536-k))==false then some (decide (a.2.2.1<au ((-65536:Int)-c)),(false,((false,([],())),((0:Int),()))),b,()) else some (true,(false,((false,([],())),((0:Int),()))),b,())) λ(l,m,e,_)=>bif l then(tN ()).bind λ(h,_)=>some (.inr (h,false,())) else some (.inl (m,e,()))) λf=>match f with
 |.inl (_,d,_)=>((vU (d,c,())).bind λ(i,_)=>some ((false,(i,(au (a.2.2.1+c),()))),true,()))
 |.inr g=>some g))
def qf:mU->Option ee:=λ(b,a,_)=>(mh ((false,(b,(a,()))),())).bind λ(c,_,_)=>some (c,())
def nY:bb->Option ee:=λ(b,_)=>(tP (b,())).bind λ(a,c,_)=>Option.bind (α:=(Int×Int×bD×Unit)⊕ee) (bif a==2047 then some (.inr ((true,((false,([],())),((0:Int),()))),())) else bif a==0 then some (.inl ((-1074:Int),c,(false,((false,([],())),((0:Int),()))),())) else some (.inl (au (a-1075),eA IntKind.u64 c 4503599627370496,(false,((false,([],())),((0:Int),()))),()))) λi=>match i with
 |.inl (f,g,e,_)=>((rZ (au g,())).bind λ(d,_)=>Option.bind (α:=(bD×bW×Unit)) ((za (b,())).bind λ(l,_)=>bif l then(qi (d,())).bind λ(m,_)=>some (e,m,()) else some (e,d,())) λ(_,h,_)=>(qf (h,f,())).bind λ(k,_)=>some (k,()))
 |.inr j=>some j
def tO:hH->Option (bD×bD×Bool×Unit):=λ(c,d,_)=>(mh (c,())).bind λ(a,aL,_)=>(mh (d,())).bind λ(b,e,_)=>(bif aL==true then some (a,b,e,()) else some (a,b,false,()))
def zp:h0->Option eF:=λ(c,a,_)=>Option.bind (α:=Unit⊕eF) (bif (aq c==0)==false then bif aq a==0 then some (.inr ([],())) else some (.inl ()) else some (.inr ([],()))) λo=>match o with
 |.inl _=>((ej (au (aq c+aq a)) (au (aq c+aq a))).bind λl=>(loop (σ:=gZ) (ρ:=eF) (λ(b,g,_)=>bif decide (b<aq c) then(ay c b).bind λh=>(loop (σ:=nQ) (ρ:=gZ) (λ(e,d,f,_)=>bif decide (d<aq a) then(ay a d).bind λi=>rd f (au (b+d)) λj=>wr f (au (b+d)) (bX (dr IntKind.u64 (aF (aF (aF (aF h*aF i)+aF j)+e)) 4294967295)) λs=>(dk IntKind.u64 (aF (aF (aF (aF h*aF i)+aF j)+e)) 32).bind λr=>some (.inl (r,aS d,s,())) else some (.inr (e,f,()))) (0,0,g,())).bind λ(k,m,_)=>wr m (au (b+aq a)) (bX k) λt=>some (.inl (aS b,t,())) else some (.inr (g,()))) (0,List.replicate l (0:Int),())).bind λ(n,_)=>(gJ (n,())).bind λ(q,_)=>some (q,()))
 |.inr p=>some p
def v7:iQ->Option ez:=λ(a,b,_)=>(gJ (a.2.1,())).bind λ(c,_)=>(gJ (b.2.1,())).bind λ(aL,_)=>(zp (c,aL,())).bind λ(d,_)=>(jQ ((!(a.1==b.1)),d,())).bind λ(e,_)=>some (e,())
def vP:hH->Option ee:=λ(b,c,_)=>(tO (b,c,())).bind λ(a,aL,d,_)=>(bif !d then(tN ()).bind λ(e,_)=>some (e,()) else(v7 (a.2.1,aL.2.1,())).bind λ(f,_)=>(qf (f,au (a.2.2.1+aL.2.2.1),())).bind λ(g,_)=>some (g,()))
def vQ:ee->Option ee:=λ(b,_)=>(mh (b,())).bind λ(a,d,_)=>Option.bind (α:=hH) (bif d then(qi (a.2.1,())).bind λ(aL,_)=>some ((a.1,(aL,a.2.2)),(false,((false,([],())),((0:Int),()))),()) else some (a,(false,((false,([],())),((0:Int),()))),())) λ(c,_,_)=>some (c,())
def lJ:mU->Option ez:=λ(a,b,_)=>(oX (a,b,())).bind λ(c,_,_)=>some (c,())
def yV:bb->Option dR:=λ(a,_)=>some ((a !=a),())
def yT:k6->Option bb:=λ(a,b,_)=>(yV (a,())).bind λ(c,_)=>(yV (b,())).bind λ(aL,_)=>(bif c then bif aL then some (0,()) else some ((-1:Int),()) else bif aL then some (1,()) else bif decide (a<b) then some ((-1:Int),()) else bif decide (a>b) then some (1,()) else some (0,()))
def r0:h0->Option bb:=λ(b,c,_)=>(bif aq b !=aq c then(tM (aq b,aq c,())).bind λ(f,_)=>some (f,()) else((loop (σ:=bb) (ρ:=iw) (λ(a,_)=>bif decide (a>=0) then(ay b a).bind λh=>(ay c a).bind λi=>bif h !=i then(ay b a).bind λj=>(ay c a).bind λk=>(yT (j,k,())).bind λ(g,_)=>some (.inr (.inr (g,()))) else some (.inl (au (a-1),())) else some (.inr (.inl ()))) (au (aq b-1),())).bind λd=>match d with
 |.inl _=>(some (0,()))
 |.inr e=>some e))
def tU:h0->Option eF:=λ(b,d,_)=>(ej (aq b) (aq b)).bind λi=>(loop (σ:=nQ) (ρ:=eF) (λ(e,a,c,_)=>bif decide (a<aq b) then Option.bind (α:=gZ) ((ay b a).bind λg=>Option.bind (α:=gZ) (bif decide (a<aq d) then(ay d a).bind λn=>some (aF (aF (aF g-e)-aF n),c,()) else some (aF (aF g-e),c,())) λ(f,j,_)=>wr j a (bX (dr IntKind.u64 f 4294967295)) λp=>(dk IntKind.u64 f 32).bind λo=>some (dr IntKind.u64 o 1,p,())) λ(h,k,_)=>some (.inl (h,aS a,k,())) else some (.inr (c,()))) (0,0,List.replicate i (0:Int),())).bind λ(l,_)=>(gJ (l,())).bind λ(m,_)=>some (m,())
def qh:iQ->Option ez:=λ(a,c,_)=>(gJ (a.2.1,())).bind λ(b,_)=>(gJ (c.2.1,())).bind λ(aL,_)=>(bif a.1==c.1 then(r1 (b,aL,())).bind λ(f,_)=>(jQ (a.1,f,())).bind λ(g,_)=>some (g,()) else(r0 (b,aL,())).bind λ(h,_)=>bif decide (h>=0) then(tU (b,aL,())).bind λ(i,_)=>(jQ (a.1,i,())).bind λ(j,_)=>some (j,()) else(tU (aL,b,())).bind λ(d,_)=>(jQ (c.1,d,())).bind λ(e,_)=>some (e,()))
def vS:(fF×Unit)->Option ee:=λ(i,_)=>(loop (σ:=(Int×Int×bD×fF×Unit)) (ρ:=((Int×bD×fF×Unit)⊕ee)) (λ(c,e,k,b,_)=>bif decide (e<aq i) then(ay i e).bind λw=>(mh (w,())).bind λ(a,s,_)=>bif !s then(tN ()).bind λ(t,_)=>some (.inr (.inr (t,()))) else(bK (b.length+([a]).length)).bind λ_=>some (.inl ((if a.2.2.1<c then a.2.2.1 else c),aS e,k,(b++[a]),())) else some (.inr (.inl (c,k,b,())))) (0,0,(false,((false,([],())),((0:Int),()))),[],())).bind λn=>match n with
 |.inl (h,u,f,_)=>((loop (σ:=(Int×bD×fF×bW×Unit)) (ρ:=(bD×bW×Unit)) (λ(d,j,g,l,_)=>bif decide (d<aq f) then rd g d λm=>(lJ (m.2.1,au (m.2.2.1-h),())).bind λ(p,_)=>(qh (l,p,())).bind λ(q,_)=>some (.inl (aS d,j,g,q,())) else some (.inr (j,l,()))) (0,u,f,(false,([],())),())).bind λ(_,v,_)=>(qf (v,h,())).bind λ(r,_)=>some (r,()))
 |.inr o=>some o
def oV:ee->Option bb:=λ(a,_)=>(mh (a,())).bind λ(b,_,_)=>(mZ (b.2.1,())).bind λ(aL,_)=>some (aL,())
def rW:ee->Option ee:=λ(a,_)=>(mh (a,())).bind λ(b,_,_)=>some (b,())
def zo:mb->Option mb:=λ(a,c,_)=>(ej (aq a) (aq a)).bind λh=>(loop (σ:=nQ) (ρ:=gZ) (λ(e,b,d,_)=>bif decide (b>=0) then(gn IntKind.u64 e 32).bind λf=>(ay a b).bind λg=>(gm IntKind.u64 (eA IntKind.u64 f (aF g)) (aF c)).bind λl=>wr d b (bX l) λn=>(gU (eA IntKind.u64 f (aF g)) (aF c)).bind λm=>some (.inl (m,au (b-1),n,())) else some (.inr (e,d,()))) (0,au (aq a-1),List.replicate h (0:Int),())).bind λ(k,i,_)=>(gJ (i,())).bind λ(j,_)=>some (j,bX k,())
def r3:bb->Option bb:=λ(b,_)=>(tV (b,())).bind λ(a,_)=>some (au (32-a),())
def v9:((aQ×Nat×Nat)×aQ×Unit)->Option mb:=λ(b,a,_)=>(bx (b.2.2-b.2.1) (aq a)).bind λV=>(bi b.1 (b.2.1+V) λP=>some P).bind λcv=>(gn IntKind.u64 (aF cv) 32).bind λI=>(bx (b.2.2-b.2.1) (au (aq a-1))).bind λad=>(bi b.1 (b.2.1+ad) λT=>some T).bind λK=>(ay a (au (aq a-1))).bind λa0=>(gm IntKind.u64 (eA IntKind.u64 I (aF K)) (aF a0)).bind λa3=>(ay a (au (aq a-1))).bind λa4=>(gU (eA IntKind.u64 I (aF K)) (aF a4)).bind λbl=>(loop (σ:=(cI×Int×Int×aQ×Unit)) (ρ:=(cI×Int×aQ×Unit)) (λ(g,h,r,m,_)=>Option.bind (α:=(cI×aQ×Unit)⊕((cI×Int×Int×aQ×Unit)⊕(cI×Int×aQ×Unit))) (bif decide (h>4294967295)==false then(ay a (au (aq a-2))).bind λbs=>(gn IntKind.u64 r 32).bind λce=>(bx (g.2-g.1) (au (aq a-2))).bind λU=>(bi m (g.1+U) λN=>some N).bind λci=>bif decide (aF (h*aF bs)>eA IntKind.u64 ce (aF ci)) then
 some (.inl (g,m,())) else some (.inr (.inr (g,h,m,()))) else some (.inl (g,m,()))) λam=>match am with
 |.inl (C,D,_)=>((ay a (au (aq a-1))).bind λE=>bif decide (aF (r+aF E)>4294967295) then some (.inr (C,aF (h-1),D,())) else some (.inl (C,aF (h-1),aF (r+aF E),D,())))
 |.inr an=>some an) (b.2,a3,bl,b.1,())).bind λ(ap,i,av,_)=>(loop (σ:=(cI×Int×Int×Int×aQ×Unit)) (ρ:=(cI×Int×Int×aQ×Unit)) (λ(e,l,p,j,n,_)=>bif decide (j<aq a) then(ay a j).bind λu=>(dk IntKind.u64 (aF (aF (i*aF u)+l)) 32).bind λco=>(bx (e.2-e.1) j).bind λW=>(bi n (e.1+W) λO=>some O).bind λF=>(bx (e.2-e.1) j).bind λy=>(bi n (e.1+y) λ_=>some (n.set (e.1+y) (bX (dr IntKind.u64 (aF (aF (aF F-dr IntKind.u64 (aF (aF (i*aF u)+l)) 4294967295)-p)) 4294967295)))).bind λd1=>(dk IntKind.u64 (aF (aF (aF F-dr IntKind.u64 (aF (aF (i*aF u)+l)) 4294967295)-p)) 32).bind λcs=>some (.inl (e,co,dr IntKind.u64 cs 1,aS j,d1,())) else some (.inr (e,l,p,n,()))) (ap,0,0,0,av,())).bind λ(c,x,w,s,_)=>(bx (c.2-c.1) (aq a)).bind λX=>(bi s (c.1+X) λQ=>some Q).bind λG=>
 (bx (c.2-c.1) (aq a)).bind λz=>(bi s (c.1+z) λ_=>some (s.set (c.1+z) (bX (dr IntKind.u64 (aF (aF (aF G-x)-w)) 4294967295)))).bind λv=>(dk IntKind.u64 (aF (aF (aF G-x)-w)) 32).bind λdl=>(bif dr IntKind.u64 dl 1==0 then bif Nat.beq c.1 b.2.1&&(Nat.beq c.2 b.2.2&&(Nat.beq v.length ((b.1).length)&&Nat.blt c.1 c.2)) then some (v,bX i,()) else none else(loop (σ:=(cI×Int×Int×aQ×Unit)) (ρ:=(cI×Int×aQ×Unit)) (λ(f,q,k,o,_)=>bif decide (k<aq a) then(ay a k).bind λH=>(bx (f.2-f.1) k).bind λY=>(bi o (f.1+Y) λR=>some R).bind λJ=>(bx (f.2-f.1) k).bind λA=>(bi o (f.1+A) λ_=>some (o.set (f.1+A) (bX (dr IntKind.u64 (aF (aF (aF J+aF H)+q)) 4294967295)))).bind λd2=>(dk IntKind.u64 (aF (aF (aF J+aF H)+q)) 32).bind λds=>some (.inl (f,ds,aS k,d2,())) else some (.inr (f,q,o,()))) (c,0,0,v,())).bind λ(d,M,t,_)=>
 (bx (d.2-d.1) (aq a)).bind λZ=>(bi t (d.1+Z) λS=>some S).bind λd0=>(bx (d.2-d.1) (aq a)).bind λB=>(bi t (d.1+B) λ_=>some (t.set (d.1+B) (bX (d0+bX M)))).bind λL=>bif Nat.beq d.1 b.2.1&&(Nat.beq d.2 b.2.2&&(Nat.beq L.length ((b.1).length)&&Nat.blt d.1 d.2)) then some (L,bX (aF (i-1)),()) else none)
def wa:h0->Option h0:=λ(a,b,_)=>(r0 (a,b,())).bind λ(t,_)=>(bif decide (t<0) then(r4 (a,())).bind λ(u,_)=>some ([],u,()) else bif aq b==1 then(ay b 0).bind λC=>(zo (a,C,())).bind λ(v,w,_)=>(gJ ([w],())).bind λ(x,_)=>some (v,x,()) else(ay b (au (aq b-1))).bind λD=>(r3 (D,())).bind λ(h,_)=>(r2 (b,h,())).bind λ(e,_)=>(ej (aS (aq a)) (aS (aq a))).bind λc=>(r2 (a,h,())).bind λ(i,_)=>(ej (au (aq (jP (List.replicate c (0:Int)) i 0 (List.replicate c (0:Int)).length)-aq e)) (au (aq (jP (List.replicate c (0:Int)) i 0 (List.replicate c (0:Int)).length)-aq e))).bind λn=>(loop (σ:=(Int×aQ×aQ×Unit)) (ρ:=h0) (λ(d,p,g,_)=>bif decide (d>=0) then((fH d).bind λj=>(fH (aS (au (d+aq e)))).bind λk=>(gh j k g.length).bind λ_=>(xH g.length).map λ_=>(j,k)).bind λf=>
 bif Nat.blt f.1 f.2 then(v9 ((g,f.1,f.2),e,())).bind λ(r,y,_)=>wr p d y λE=>some (.inl (au (d-1),E,r,())) else none else some (.inr (p,g,()))) (au (aq (List.replicate n (0:Int))-1),List.replicate n (0:Int),jP (List.replicate c (0:Int)) i 0 (List.replicate c (0:Int)).length,())).bind λ(s,q,_)=>((some (0)).bind λl=>(fH (aq e)).bind λm=>(gh l m q.length).map λ_=>(l,m)).bind λo=>(gJ (((q.take o.2).drop o.1),())).bind λ(z,_)=>(tS (z,h,())).bind λ(A,_,_)=>(gJ (s,())).bind λ(B,_)=>some (B,A,()))
def zn:eF->Option eF:=λ(b,_)=>(bif aq b==0 then some ([],()) else(tT (b,())).bind λ(e,_)=>(gm IntKind.i64 (aS e) 2).bind λh=>(r2 ([1],h,())).bind λ(aL,_)=>(loop (σ:=eF) (ρ:=eF) (λ(a,_)=>(wa (b,a,())).bind λ(f,_,_)=>(r1 (a,f,())).bind λ(g,_)=>(tS (g,1,())).bind λ(c,_,_)=>(r0 (c,a,())).bind λ(d,_)=>bif decide (d>=0) then some (.inr (a,())) else some (.inl (c,()))) (aL,())).bind some)
def zl:ez->Option mU:=λ(a,_)=>(mZ (a,())).bind λ(b,_)=>(bif decide (b<0) then some ((false,(([]:aQ),())),11,()) else(gJ (a.2.1,())).bind λ(c,_)=>(zn (c,())).bind λ(aL,_)=>(jQ (false,aL,())).bind λ(d,_)=>some (d,0,()))
def tR:iQ->Option bb:=λ(b,c,_)=>(mZ (b,())).bind λ(a,_)=>(mZ (c,())).bind λ(aL,_)=>(bif decide (a<aL) then some ((-1:Int),()) else bif decide (a>aL) then some (1,()) else(gJ (b.2.1,())).bind λ(d,_)=>(gJ (c.2.1,())).bind λ(e,_)=>(r0 (d,e,())).bind λ(f,_)=>some (au (a*f),()))
def y2:(bD×Int×Unit)->Option (p1×Unit):=λ(c,a,_)=>(oW (c.2.1,())).bind λ(b,_)=>Option.bind (α:=(Int×p1×Unit)) ((gU (au (c.2.2.1-(if(au (au (2*au (a+3))-b))>0 then au (au (2*au (a+3))-b) else 0))) 2).bind λj=>bif j !=0 then some (aS (if(au (au (2*au (a+3))-b))>0 then au (au (2*au (a+3))-b) else 0),(false,((false,([],())),((0:Int),(false,())))),()) else some ((if(au (au (2*au (a+3))-b))>0 then au (au (2*au (a+3))-b) else 0),(false,((false,([],())),((0:Int),(false,())))),())) λ(e,_,_)=>(lJ (c.2.1,e,())).bind λ(f,_)=>(zl (f,())).bind λ(d,_,_)=>(gm IntKind.i64 (au (c.2.2.1-e)) 2).bind λi=>(v7 (d,d,())).bind λ(g,_)=>(tR (g,f,())).bind λ(h,_)=>some ((false,(d,(i,((h !=0),())))),())
def y0:(p1×Unit)->Option bb:=λ(a,_)=>(oW (a.2.1,())).bind λ(b,_)=>some (au (au (a.2.2.1+b)-1),())
def zm:iQ->Option ez:=λ(b,a,_)=>(qh (b,((!a.1),a.2),())).bind λ(c,_)=>some (c,())
def vR:(p1×Int×Unit)->Option (bW×Int×Bool×Unit):=λ(a,b,_)=>(oW (a.2.1,())).bind λ(h,_)=>(bif decide (b>h) then some ((false,(([]:aQ),())),(-1:Int),false,()) else(vU (a.2.1,b,())).bind λ(aL,_)=>(lJ (aL,b,())).bind λ(i,_)=>(zm (a.2.1,i,())).bind λ(c,_)=>(rZ (1,())).bind λ(j,_)=>(lJ (j,au (b-1),())).bind λ(k,_)=>(tR (c,k,())).bind λ(d,_)=>Option.bind (α:=(Int×bW×bW×Unit)) (bif (d==0)==true then bif a.2.2.2.1 then some (1,aL,c,()) else some (d,aL,c,()) else some (d,aL,c,())) λ(e,f,l,_)=>(mZ (l,())).bind λ(g,_)=>bif (g==0)==true then some (f,e,(!a.2.2.2.1),()) else some (f,e,false,()))
def y1:(p1×Int×Int×Unit)->Option ez:=λ(c,e,d,_)=>Option.bind (α:=(Int×Bool×bW×bW×Unit)) (bif decide (e<=c.2.2.1) then(lJ (c.2.1,au (c.2.2.1-e),())).bind λ(aL,_)=>some ((-1:Int),true,(false,([],())),aL,()) else(vR (c,au (e-c.2.2.1),())).bind λ(s,t,u,_)=>some (t,u,(false,([],())),s,())) λ(f,l,b,a,_)=>Option.bind (α:=(Bool×bW×bW×Unit)) (bif l then some (false,b,a,()) else bif d==1 then some (c.1,b,a,()) else bif d==2 then some ((!c.1),b,a,()) else bif d==3 then some (false,b,a,()) else bif decide (f>0)==false then bif (f==0)==true then(mZ (a,())).bind λ(n,_)=>bif (n !=0)==true then(v8 (a,())).bind λ(o,_)=>some ((o==0),b,a,()) else some (false,b,a,()) else some (false,b,a,()) else some (true,b,a,())) λ(k,i,g,_)=>Option.bind (α:=iQ) (bif k then(rZ (1,())).bind λ(p,_)=>(qh (g,p,())).bind λ(q,_)=>some (i,q,()) else some (i,g,())) λ(j,h,_)=>Option.bind (α:=iQ) (bif c.1 then(qi (h,())).bind λ(r,_)=>some (j,r,()) else some (j,h,())) λ(_,m,_)=>some (m,())
def rY:ez->Option ez:=λ(a,_)=>(r4 (a.2.1,())).bind λ(b,_)=>(jQ (false,b,())).bind λ(c,_)=>some (c,())
def zj:ez->Option cC:=λ(c,_)=>(gJ (c.2.1,())).bind λ(d,_)=>(bif decide (aq d>2) then some (0,false,()) else((loop (σ:=k6) (ρ:=bb) (λ(e,b,_)=>bif decide (b<aq d) then(ay d b).bind λj=>(gn IntKind.u64 (aF j) (au (32*b))).bind λk=>some (.inl (eA IntKind.u64 e k,aS b,())) else some (.inr (e,()))) (0,0,())).bind λ(a,_)=>Option.bind (α:=Unit⊕cC) (Option.bind (α:=dR) (bif c.1==true then bif decide (a>0)==true then some (decide (a<=9223372036854775808),()) else some (false,()) else some (false,())) λ(h,_)=>bif h then some (.inr (au (au (0-au (aF (a-1)))-1),true,())) else Option.bind (α:=dR) (bif decide (a<9223372036854775808)==true then bif (!c.1)==false then some ((a==0),()) else some (true,()) else some (false,())) λ(i,_)=>bif i then some (.inr (au a,true,())) else some (.inl ())) λf=>match f with
 |.inl _=>(some (0,false,()))
 |.inr g=>some g))
def rX:cC->Option bb:=λ(a,b,_)=>(bif b then some (eA IntKind.u64 a 9223372036854775808,()) else some (a,()))
def zb:cE->Option bb:=λ(a,b,_)=>Option.bind (α:=Unit⊕bb) (Option.bind (α:=dR) (bif (b==3)==false then bif (b==1)==true then bif (!a)==false then bif (b==2)==true then some (a,()) else some (false,()) else some (true,()) else bif (b==2)==true then some (a,()) else some (false,()) else some (true,())) λ(f,_)=>bif f then(rX (9218868437227405311,a,())).bind λ(aL,_)=>some (.inr (aL,())) else some (.inl ())) λc=>match c with
 |.inl _=>((rX (9218868437227405312,a,())).bind λ(e,_)=>some (e,()))
 |.inr d=>some d
def vV:(p1×Int×Unit)->Option bb:=λ(b,d,_)=>(y0 (b,())).bind λ(a,_)=>(y1 (b,(if(-1074:Int)>au (a-52) then(-1074:Int) else au (a-52)),d,())).bind λ(aL,_)=>(rY (aL,())).bind λ(j,_)=>(zj (j,())).bind λ(f,_,_)=>Option.bind (α:=k6) (bif aF f==9007199254740992 then some (aS (if(-1074:Int)>au (a-52) then(-1074:Int) else au (a-52)),4503599627370496,()) else some ((if(-1074:Int)>au (a-52) then(-1074:Int) else au (a-52)),aF f,())) λ(e,c,_)=>(bif decide (c<4503599627370496) then(rX (c,b.1,())).bind λ(g,_)=>some (g,()) else bif decide (au (e+1075)>=2047) then(zb (b.1,d,())).bind λ(h,_)=>some (h,()) else(gn IntKind.u64 (aF (au (e+1075))) 52).bind λk=>(rX (eA IntKind.u64 k (aF (c-4503599627370496)),b.1,())).bind λ(i,_)=>some (i,()))
def y9:(bD×Int×Unit)->Option bb:=λ(c,e,_)=>(rW (c,())).bind λ(a,_)=>Option.bind (α:=ee⊕bb) (Option.bind (α:=(Bool×bD×Unit)) (bif a.1==false then(oV (a,())).bind λ(aL,_)=>some (decide (aL<0),a,()) else some (true,a,())) λ(k,b,_)=>bif k then some (.inr (9221120237041090560,())) else(oV (b,())).bind λ(i,_)=>bif i==0 then some (.inr (0,())) else some (.inl (b,()))) λf=>match f with
 |.inl (d,_)=>((y2 (d,56,())).bind λ(j,_)=>(vV (j,e,())).bind λ(h,_)=>some (h,()))
 |.inr g=>some g
def y7:bb->Option bb:=λ(c,_)=>(tP (c,())).bind λ(a,b,_)=>Option.bind (α:=dR) (bif (a==2047)==true then some ((b !=0),()) else some (false,())) λ(d,_)=>(bif d then some (3,()) else bif a==2047 then some (2,()) else bif (a==0)==true then bif b==0 then some (0,()) else some (1,()) else some (1,()))
def zi:iQ->Option (bW×bW×Int×Unit):=λ(a,d,_)=>(gJ (d.2.1,())).bind λ(b,_)=>(bif aq b==0 then some ((false,(([]:aQ),())),(false,(([]:aQ),())),8,()) else(gJ (a.2.1,())).bind λ(aL,_)=>(wa (aL,b,())).bind λ(f,c,_)=>Option.bind (α:=(aQ×aQ×bW×bW×Unit)) (Option.bind (α:=(Bool×bW×bW×Unit)) (bif a.1==true then some (decide (aq c>0),(false,([],())),(false,([],())),()) else some (false,(false,([],())),(false,([],())),())) λ(n,e,g,_)=>bif n then(r1 (f,[1],())).bind λ(j,_)=>(tU (b,c,())).bind λ(k,_)=>some (j,k,e,g,()) else some (f,c,e,g,())) λ(h,i,_,_,_)=>(jQ ((!(a.1==d.1)),h,())).bind λ(l,_)=>(jQ (false,i,())).bind λ(m,_)=>some (l,m,0,()))
def yZ:(bD×bD×Int×Unit)->Option (p1×Unit):=λ(a,b,c,_)=>(oW (b.2.1,())).bind λ(aL,_)=>(oW (a.2.1,())).bind λ(d,_)=>(rY (a.2.1,())).bind λ(g,_)=>(lJ (g,(if(au (au (au (c+3)+aL)-d))>0 then au (au (au (c+3)+aL)-d) else 0),())).bind λ(h,_)=>(rY (b.2.1,())).bind λ(i,_)=>(zi (h,i,())).bind λ(j,e,_,_)=>(mZ (e,())).bind λ(f,_)=>some (((!(a.2.1.1==b.2.1.1)),(j,(au (au (a.2.2.1-(if(au (au (au (c+3)+aL)-d))>0 then au (au (au (c+3)+aL)-d) else 0))-b.2.2.1),((f !=0),())))),())
def y8:(bD×bD×Int×Unit)->Option bb:=λ(c,f,h,_)=>(rW (c,())).bind λ(aL,_)=>(rW (f,())).bind λ(a,_)=>Option.bind (α:=hH⊕bb) (Option.bind (α:=(Bool×bD×bD×Unit)) (bif aL.1==false then bif a.1==false then(oV (a,())).bind λ(n,_)=>some ((n==0),aL,a,()) else some (true,aL,a,()) else some (true,aL,a,())) λ(o,b,g,_)=>bif o then some (.inr (9221120237041090560,())) else(oV (b,())).bind λ(k,_)=>bif k==0 then some (.inr (0,())) else some (.inl (b,g,()))) λi=>match i with
 |.inl (d,e,_)=>((yZ (d,e,56,())).bind λ(l,_)=>(vV (l,h,())).bind λ(m,_)=>some (m,()))
 |.inr j=>some j
def qo:bb->Option dR:=λ(a,_)=>(dk IntKind.u64 a 52).bind λb=>some ((dr IntKind.u64 b 2047 !=2047),())
def z2:bb->Option dR:=λ(a,_)=>some ((dr IntKind.u64 a 9223372036854775808 !=0),())
def o2:bb->Option ee:=λ(a,_)=>(qo (a,())).bind λ(f,_)=>(bif !f then(qm ()).bind λ(g,_)=>some (g,()) else(dk IntKind.u64 a 52).bind λc=>Option.bind (α:=(Int×Int×bD×Unit)) (bif decide (au (dr IntKind.u64 c 2047)>0) then some (eA IntKind.u64 (dr IntKind.u64 a 4503599627370495) 4503599627370496,au (au (dr IntKind.u64 c 2047)-1075),(false,((false,([],())),((0:Int),()))),()) else some (dr IntKind.u64 a 4503599627370495,(-1074:Int),(false,((false,([],())),((0:Int),()))),())) λ(b,d,_,_)=>(z2 (a,())).bind λ(h,_)=>(dk IntKind.u64 b 32).bind λi=>(mi ((h,([bX b,bX i],())),d,())).bind λ(e,_)=>some (e,()))
def wu:ee->Option ee:=λ(b,_)=>(iU (b,())).bind λ(a,_)=>(bif a.1 then some (a,()) else(oY (a.2.1,())).bind λ(c,_)=>(mi (c,a.2.2.1,())).bind λ(aL,_)=>some (aL,()))
def ue:(fF×Unit)->Option ee:=λ(h,_)=>(loop (σ:=(Int×Int×bD×bW×Unit)) (ρ:=((Int×bD×bW×Unit)⊕ee)) (λ(b,e,c,d,_)=>bif decide (e<aq h) then(Option.bind (α:=(Int×bD×bW×Unit)⊕((Int×Int×bD×bW×Unit)⊕((Int×bD×bW×Unit)⊕ee))) ((ay h e).bind λv=>(iU (v,())).bind λ(a,_)=>bif a.1 then(qm ()).bind λ(q,_)=>some (.inr (.inr (.inr (q,())))) else(iT (a.2.1,())).bind λ(r,_)=>bif r==0 then some (.inl (b,c,d,())) else(iT (d,())).bind λ(k,_)=>bif k==0 then some (.inl (a.2.2.1,c,a.2.1,())) else bif decide (a.2.2.1>=b) then(jR (a.2.1,au (a.2.2.1-b),())).bind λ(l,_)=>(m0 (d,l,())).bind λ(m,_)=>some (.inl (b,c,m,())) else(jR (d,au (b-a.2.2.1),())).bind λ(n,_)=>(m0 (n,a.2.1,())).bind λ(o,_)=>some (.inl (a.2.2.1,c,o,()))) λf=>match f with
 |.inl (i,s,t,_)=>(some (.inl (i,aS e,s,t,())))
 |.inr g=>some g) else some (.inr (.inl (b,c,d,())))) (0,0,(false,((false,([],())),((0:Int),()))),(false,(([]:aQ),())),())).bind λf=>match f with
 |.inl (j,_,u,_)=>((mi (u,j,())).bind λ(p,_)=>some (p,()))
 |.inr g=>some g
def zS:h0->Option eF:=λ(d,b,_)=>(ej (au (aq d+aq b)) (au (aq d+aq b))).bind λl=>(loop (σ:=gZ) (ρ:=eF) (λ(a,g,_)=>bif decide (a<aq d) then(loop (σ:=nQ) (ρ:=gZ) (λ(e,c,f,_)=>bif decide (c<aq b) then(ay d a).bind λj=>(ay b c).bind λh=>rd f (au (a+c)) λi=>wr f (au (a+c)) (bX (aF (aF (e+aF (aF j*aF h))+aF i))) λp=>(dk IntKind.u64 (aF (aF (e+aF (aF j*aF h))+aF i)) 32).bind λo=>some (.inl (o,aS c,p,())) else some (.inr (e,f,()))) (0,0,g,())).bind λ(k,m,_)=>wr m (au (a+aq b)) (bX k) λq=>some (.inl (aS a,q,())) else some (.inr (g,()))) (0,List.replicate l (0:Int),())).bind λ(n,_)=>some (n,())
def wl:iQ->Option ez:=λ(a,b,_)=>(kJ (a.2.1,())).bind λ(c,_)=>(kJ (b.2.1,())).bind λ(aL,_)=>(zS (c,aL,())).bind λ(d,_)=>(kn ((!(a.1==b.1)),d,())).bind λ(e,_)=>some (e,())
def zW:hH->Option ee:=λ(d,f,_)=>(iU (d,())).bind λ(a,_)=>(iU (f,())).bind λ(aL,_)=>Option.bind (α:=(bD×bD×bD×Unit)⊕ee) (Option.bind (α:=(Bool×bD×bD×bD×Unit)) (bif a.1==false then some (aL.1,a,aL,(false,((false,([],())),((0:Int),()))),()) else some (true,a,aL,(false,((false,([],())),((0:Int),()))),())) λ(m,e,g,n,_)=>bif m then(qm ()).bind λ(l,_)=>some (.inr (l,())) else some (.inl (e,g,n,()))) λh=>match h with
 |.inl (b,c,_,_)=>((wl (b.2.1,c.2.1,())).bind λ(j,_)=>(mi (j,au (b.2.2.1+c.2.2.1),())).bind λ(k,_)=>some (k,()))
 |.inr i=>some i
def ud:ee->Option ee:=λ(b,_)=>(iU (b,())).bind λ(a,_)=>(bif a.1 then some (a,()) else(wm (a.2.1,())).bind λ(c,_)=>(mi (c,a.2.2.1,())).bind λ(aL,_)=>some (aL,()))
def ws:(aQ×aQ×Int×Int×Unit)->Option (aQ×Bool×Unit):=λ(w,b,i,r,_)=>(ej (aS (aq b)) (aS (aq b))).bind λs=>(loop (σ:=(Int×Int×Int×aQ×aQ×Unit)) (ρ:=(Int×aQ×aQ×Unit)) (λ(d,h,a,g,f,_)=>bif decide (a<=aq b) then Option.bind (α:=(Int×Int×aQ×aQ×Unit)) (Option.bind (α:=(Int×aQ×aQ×Unit)) (bif decide (a<aq b) then(ay b a).bind λz=>some (aF (h+aF (r*aF z)),g,f,()) else some (h,g,f,())) λ(e,k,t,_)=>rd k (au (a+i)) λn=>(dk IntKind.u64 e 32).bind λA=>wr t a (bX (aF (aF (aF n-d)-dr IntKind.u64 e 4294967295))) λD=>(dk IntKind.u64 (aF (aF (aF n-d)-dr IntKind.u64 e 4294967295)) 63).bind λB=>some (B,A,k,D,())) λ(o,q,x,u,_)=>some (.inl (o,q,aS a,x,u,())) else some (.inr (d,g,f,()))) (0,0,0,w,List.replicate s (0:Int),())).bind λ(p,l,v,_)=>
 (bif p !=0 then some (l,false,()) else(loop (σ:=(Int×aQ×aQ×Unit)) (ρ:=eF) (λ(c,m,j,_)=>bif decide (c<=aq b) then rd j c λC=>wr m (au (c+i)) C λE=>some (.inl (aS c,E,j,())) else some (.inr (m,()))) (0,l,v,())).bind λ(y,_)=>some (y,true,()))
def zR:h0->Option h0:=λ(b,a,_)=>(wo (b,a,())).bind λ(u,_)=>(bif decide (u<0) then some ([],b,()) else(ay a (au (aq a-1))).bind λE=>(r3 (E,())).bind λ(i,_)=>(ub (b,i,())).bind λ(e,_)=>(ub (a,i,())).bind λ(f,_)=>((some (0)).bind λj=>(fH (aq a)).bind λk=>(gh j k f.length).bind λ_=>(xH f.length).map λ_=>(j,k)).bind λd=>Option.bind (α:=h0) (bif aq e==aq b then(bK (e.length+([0]).length)).bind λ_=>some (((f.take d.2).drop d.1),(e++[0]),()) else some (((f.take d.2).drop d.1),e,())) λ(o,A,_)=>(ej (aS (au (aq b-aq a))) (aS (au (aq b-aq a)))).bind λr=>(loop (σ:=(Int×aQ×aQ×Unit)) (ρ:=h0) (λ(c,g,m,_)=>bif decide (c>=0) then rd g (au (c+aq a)) λF=>(gn IntKind.u64 (aF F) 32).bind λG=>rd g (au (au (c+aq a)-1)) λH=>
 (ay o (au (aq a-1))).bind λI=>(gm IntKind.u64 (eA IntKind.u64 G (aF H)) (aF I)).bind λp=>(loop (σ:=(Int×aQ×aQ×Unit)) (ρ:=(Int×aQ×aQ×Unit)) (λ(h,B,n,_)=>(ws (B,o,c,h,())).bind λ(l,v,_)=>bif !v then some (.inl (aF (h-1),l,n,())) else some (.inr (h,l,n,()))) ((if 4294967295<p then 4294967295 else p),g,m,())).bind λ(q,C,s,_)=>wr s c (bX q) λJ=>some (.inl (au (c-1),C,J,())) else some (.inr (g,m,()))) (au (aq b-aq a),A,List.replicate r (0:Int),())).bind λ(D,t,_)=>(kJ (D,())).bind λ(w,_)=>(uc (w,i,())).bind λ(x,_,_)=>(kJ (t,())).bind λ(y,_)=>(kJ (x,())).bind λ(z,_)=>some (y,z,()))
def wj:iQ->Option iQ:=λ(e,f,_)=>(nZ (e,())).bind λ(a,_)=>(nZ (f,())).bind λ(aL,_)=>(zR (a.2.1,aL.2.1,())).bind λ(m,n,_)=>(kn ((!(a.1==aL.1)),m,())).bind λ(b,_)=>(kn (a.1,n,())).bind λ(c,_)=>Option.bind (α:=(bW×bW×bW×bW×Unit)) ((iT (c,())).bind λ(o,_)=>bif decide (o<0) then(oY (aL,())).bind λ(h,_)=>(m0 (c,h,())).bind λ(d,_)=>bif aL.1 then(o0 (1,())).bind λ(i,_)=>(m0 (b,i,())).bind λ(j,_)=>some ((false,([],())),(false,([],())),j,d,()) else(o0 (1,())).bind λ(k,_)=>(ua (b,k,())).bind λ(l,_)=>some ((false,([],())),(false,([],())),l,d,()) else some ((false,([],())),(false,([],())),b,c,())) λ(_,_,g,p,_)=>some (g,p,())
def tZ:iQ->Option bb:=λ(a,b,_)=>(ua (a,b,())).bind λ(c,_)=>(iT (c,())).bind λ(aL,_)=>some (aL,())
def zP:ez->Option ez:=λ(b,_)=>(iT (b,())).bind λ(f,_)=>(bif f==0 then some ((false,(([]:aQ),())),()) else(o0 (1,())).bind λ(g,_)=>(oZ (b,())).bind λ(aL,_)=>(gm IntKind.i64 (aS aL) 2).bind λk=>(jR (g,k,())).bind λ(h,_)=>(loop (σ:=iQ) (ρ:=ez) (λ(j,a,_)=>(wj (b,a,())).bind λ(i,_,_)=>(m0 (a,i,())).bind λ(d,_)=>(jR (d,(-1:Int),())).bind λ(c,_)=>(tZ (c,a,())).bind λ(e,_)=>bif decide (e>=0) then some (.inr (a,())) else some (.inl (j,c,()))) ((false,([],())),h,())).bind some)
def zY:(bW×Int×Int×Unit)->Option (bW×Int×Bool×Unit):=λ(c,d,a,_)=>(oZ (c,())).bind λ(aL,_)=>Option.bind (α:=(Int×bW×Unit)) ((gU (au (d-(if 0>au (au (au (2*a)+6)-aL) then 0 else au (au (au (2*a)+6)-aL)))) 2).bind λj=>bif j !=0 then some (aS (if 0>au (au (au (2*a)+6)-aL) then 0 else au (au (au (2*a)+6)-aL)),(false,([],())),()) else some ((if 0>au (au (au (2*a)+6)-aL) then 0 else au (au (au (2*a)+6)-aL)),(false,([],())),())) λ(e,_,_)=>(jR (c,e,())).bind λ(f,_)=>(zP (f,())).bind λ(b,_)=>(gm IntKind.i64 (au (d-e)) 2).bind λi=>(wl (b,b,())).bind λ(g,_)=>(tZ (g,f,())).bind λ(h,_)=>some (b,i,(h !=0),())
def z6:(bD×Int×Unit)->Option bb:=λ(c,d,_)=>(iU (c,())).bind λ(b,_)=>Option.bind (α:=ee⊕bb) (bif b.1==false then(iT (b.2.1,())).bind λ(aL,_)=>bif decide (aL<0) then some (.inr (9221120237041090560,())) else some (.inl (b,())) else some (.inr (9221120237041090560,()))) λe=>match e with
 |.inl (a,_)=>((iT (a.2.1,())).bind λ(h,_)=>bif h==0 then some (0,()) else(zY (a.2.1,a.2.2.1,60,())).bind λ(i,j,k,_)=>(ug (false,i,j,k,d,())).bind λ(g,_)=>some (g,()))
 |.inr f=>some f
def ww:ee->Option bb:=λ(b,_)=>(iU (b,())).bind λ(a,_)=>(bif a.1 then some (0,()) else(iT (a.2.1,())).bind λ(c,_)=>some (c,()))
def zX:(bW×bW×Int×Unit)->Option (bW×Int×Bool×Unit):=λ(c,d,a,_)=>(oZ (d,())).bind λ(aL,_)=>(oZ (c,())).bind λ(b,_)=>(jR (c,(if 0>au (au (au (a+2)+aL)-b) then 0 else au (au (au (a+2)+aL)-b)),())).bind λ(e,_)=>(wj (e,d,())).bind λ(f,g,_)=>(iT (g,())).bind λ(h,_)=>some (f,au (0-(if 0>au (au (au (a+2)+aL)-b) then 0 else au (au (au (a+2)+aL)-b))),(h !=0),())
def z5:(bD×bD×Int×Unit)->Option bb:=λ(d,e,f,_)=>(iU (d,())).bind λ(aL,_)=>(iU (e,())).bind λ(c,_)=>Option.bind (α:=hH⊕bb) (bif aL.1==false then bif c.1==false then(iT (c.2.1,())).bind λ(o,_)=>bif o==0 then some (.inr (9221120237041090560,())) else some (.inl (aL,c,())) else some (.inr (9221120237041090560,())) else some (.inr (9221120237041090560,()))) λg=>match g with
 |.inl (a,b,_)=>((iT (a.2.1,())).bind λ(p,_)=>bif p==0 then some (0,()) else(oY (a.2.1,())).bind λ(i,_)=>(oY (b.2.1,())).bind λ(j,_)=>(zX (i,j,60,())).bind λ(k,l,m,_)=>(ug ((!(a.2.1.1==b.2.1.1)),k,au (au (a.2.2.1-b.2.2.1)+l),m,f,())).bind λ(n,_)=>some (n,()))
 |.inr h=>some h
def qn:hH->Option (bW×bW×Int×Unit):=λ(a,b,_)=>(iT (a.2.1,())).bind λ(c,_)=>(bif c==0 then some (a.2.1,b.2.1,b.2.2.1,()) else(iT (b.2.1,())).bind λ(aL,_)=>bif aL==0 then some (a.2.1,b.2.1,a.2.2.1,()) else bif decide (a.2.2.1>b.2.2.1) then(jR (a.2.1,au (a.2.2.1-b.2.2.1),())).bind λ(d,_)=>some (d,b.2.1,b.2.2.1,()) else(jR (b.2.1,au (b.2.2.1-a.2.2.1),())).bind λ(e,_)=>some (a.2.1,e,a.2.2.1,()))
def zT:hH->Option ee:=λ(b,f,_)=>(iU (b,())).bind λ(a,_)=>(iU (f,())).bind λ(aL,_)=>Option.bind (α:=(bD×bD×bD×Unit)⊕ee) (Option.bind (α:=(Bool×bD×bD×bD×Unit)) (bif a.1==false then some (aL.1,a,aL,(false,((false,([],())),((0:Int),()))),()) else some (true,a,aL,(false,((false,([],())),((0:Int),()))),())) λ(p,d,g,q,_)=>bif p then(qm ()).bind λ(o,_)=>some (.inr (o,())) else some (.inl (d,g,q,()))) λh=>match h with
 |.inl (c,e,_,_)=>((qn (c,e,())).bind λ(j,k,l,_)=>(m0 (j,k,())).bind λ(m,_)=>(mi (m,l,())).bind λ(n,_)=>some (n,()))
 |.inr i=>some i
def zZ:hH->Option ee:=λ(a,b,_)=>(ud (b,())).bind λ(c,_)=>(zT (a,c,())).bind λ(aL,_)=>some (aL,())
def zU:hH->Option cC:=λ(b,e,_)=>(iU (b,())).bind λ(a,_)=>(iU (e,())).bind λ(aL,_)=>Option.bind (α:=hH⊕cC) (Option.bind (α:=(Bool×bD×bD×Unit)) (bif a.1==false then some (aL.1,a,aL,()) else some (true,a,aL,())) λ(m,c,f,_)=>bif m then some (.inr (0,false,())) else some (.inl (c,f,()))) λh=>match h with
 |.inl (d,g,_)=>((qn (d,g,())).bind λ(j,k,_,_)=>(tZ (j,k,())).bind λ(l,_)=>some (l,true,()))
 |.inr i=>some i
def yY:bb->Option ee:=λ(a,_)=>(rZ (a,())).bind λ(b,_)=>(qf (b,0,())).bind λ(c,_)=>some (c,())
def vT:hH->Option (bW×bW×Int×Unit):=λ(a,b,_)=>(lJ (a.2.1,au (a.2.2.1-(if b.2.2.1<a.2.2.1 then b.2.2.1 else a.2.2.1)),())).bind λ(c,_)=>(lJ (b.2.1,au (b.2.2.1-(if b.2.2.1<a.2.2.1 then b.2.2.1 else a.2.2.1)),())).bind λ(aL,_)=>some (c,aL,(if b.2.2.1<a.2.2.1 then b.2.2.1 else a.2.2.1),())
def yX:hH->Option ee:=λ(a,b,_)=>(tO (a,b,())).bind λ(e,aL,f,_)=>(bif !f then(tN ()).bind λ(g,_)=>some (g,()) else(vT (e,aL,())).bind λ(h,i,j,_)=>(qh (h,i,())).bind λ(c,_)=>(qf (c,j,())).bind λ(d,_)=>some (d,()))
def y3:hH->Option ee:=λ(a,b,_)=>(vQ (b,())).bind λ(c,_)=>(yX (a,c,())).bind λ(aL,_)=>some (aL,())
def yW:ee->Option ee:=λ(b,_)=>(mh (b,())).bind λ(a,d,_)=>Option.bind (α:=hH) (bif d then(rY (a.2.1,())).bind λ(aL,_)=>some ((a.1,(aL,a.2.2)),(false,((false,([],())),((0:Int),()))),()) else some (a,(false,((false,([],())),((0:Int),()))),())) λ(c,_,_)=>some (c,())
def vO:hH->Option cC:=λ(a,b,_)=>(tO (a,b,())).bind λ(c,aL,d,_)=>(bif !d then some (0,false,()) else(vT (c,aL,())).bind λ(e,f,_,_)=>(tR (e,f,())).bind λ(g,_)=>some (g,true,()))
def zx:(Int×Int×Int×Unit)->Option dR:=λ(a,c,b,_)=>(bif decide (a>=c)==true then some (decide (a<=b),()) else some (false,()))
def zC:eF->Option dR:=λ(b,_)=>(loop (σ:=bb) (ρ:=hZ) (λ(a,_)=>bif decide (a>0) then(ay b a).bind λf=>(ay b (au (a-1))).bind λg=>(rV (f,g,())).bind λ(e,_)=>bif e then some (.inr (.inr (false,()))) else some (.inl (au (a-1),())) else some (.inr (.inl ()))) (au (aq b-1),())).bind λc=>match c with
 |.inl _=>(some (true,()))
 |.inr d=>some d
def zu:k7->Option dR:=λ(a,_)=>Option.bind (α:=Unit⊕dR) (bif (aq a.2.2.1 !=aS a.2.1)==false then(ay a.2.2.1 0).bind λm=>bif (m !=0)==false then(zC (a.2.2.1,())).bind λ(l,_)=>bif (!l)==false then(ay a.2.2.1 a.2.1).bind λn=>bif (n !=aq a.2.2.2.1)==false then bif aq a.2.2.2.1 !=aq a.2.2.2.2.1 then some (.inr (false,())) else some (.inl ()) else some (.inr (false,())) else some (.inr (false,())) else some (.inr (false,())) else some (.inr (false,()))) λb=>match b with
 |.inl _=>((loop (σ:=bb) (ρ:=hZ) (λ(e,_)=>bif decide (e<a.2.1) then((ay a.2.2.1 e).bind λo=>(ay a.2.2.1 (aS e)).bind λp=>((fH o).bind λh=>(fH p).bind λi=>(gh h i (a.2.2.2.1).length).map λ_=>(h,i)).bind λd=>(loop (σ:=k6) (ρ:=(Unit⊕(bb⊕hZ))) (λ(j,f,_)=>bif decide (f<aq (((a.2.2.2.1).take d.2).drop d.1)) then(Option.bind (α:=bb⊕(k6⊕(Unit⊕(bb⊕hZ)))) ((ay (((a.2.2.2.1).take d.2).drop d.1) f).bind λg=>Option.bind (α:=Unit⊕(bb⊕(k6⊕(Unit⊕(bb⊕hZ))))) (bif decide (g<=j)==false then bif decide (g>=a.1) then some (.inr (.inr (.inr (.inr (.inr (.inr (false,()))))))) else some (.inl ()) else some (.inr (.inr (.inr (.inr (.inr (.inr (false,())))))))) λb=>match b with
 |.inl _=>(some (.inl (g,())))
 |.inr c=>some c) λb=>match b with
 |.inl (k,_)=>(some (.inl (k,aS f,())))
 |.inr c=>some c) else some (.inr (.inl ()))) ((-1:Int),0,())).bind λb=>match b with
 |.inl _=>(some (.inl (aS e,())))
 |.inr c=>some c) else some (.inr (.inl ()))) (0,())).bind λb=>match b with
 |.inl _=>(some (true,()))
 |.inr c=>some c)
 |.inr c=>some c
def CS:bb->Option dR:=λ(a,_)=>(qg (a,())).bind λ(b,_)=>some ((!b),())
def CU:(aQ×Unit×Unit)->Option bb:=λ(b,_,_)=>(loop (σ:=bb) (ρ:=iw) (λ(a,_)=>bif decide (a<aq b) then(ay b a).bind λf=>(CS (f,())).bind λ(e,_)=>bif e then some (.inr (.inr (a,()))) else some (.inl (aS a,())) else some (.inr (.inl ()))) (0,())).bind λc=>match c with
 |.inl _=>(some ((-1:Int),()))
 |.inr d=>some d
def zA:(aQ×Unit×Unit)->Option dR:=λ(b,_,_)=>(CU (b,(),())).bind λ(a,_)=>some (decide (a>=0),())
def qj:k7->Option bb:=λ(a,_)=>Option.bind (α:=dR) ((zx (a.1,0,200,())).bind λ(b,_)=>bif (!b)==false then(zx (a.2.1,0,200,())).bind λ(c,_)=>bif (!c)==false then some (decide (aq a.2.2.2.1>10000),()) else some (true,()) else some (true,())) λ(f,_)=>(bif f then some (6,()) else(zu (a,())).bind λ(d,_)=>bif !d then some (1,()) else(zA (a.2.2.2.2.1,(),())).bind λ(e,_)=>bif e then some (4,()) else some (0,()))
def An:mb->Option (aQ×Bool×Unit):=λ(h,a,_)=>(bif aq h !=a then some ([],false,()) else((ej a a).bind λi=>(ej a a).bind λj=>(loop (σ:=(Int×aQ×hI×Unit)) (ρ:=(eF⊕(aQ×Bool×Unit))) (λ(f,e,g,_)=>bif decide (f<aq h) then(Option.bind (α:=(aQ×hI×Unit)⊕((Int×aQ×hI×Unit)⊕(eF⊕(aQ×Bool×Unit)))) ((ay h f).bind λd=>Option.bind (α:=(aQ×hI×Unit)⊕((aQ×hI×Unit)⊕((Int×aQ×hI×Unit)⊕(eF⊕(aQ×Bool×Unit))))) (Option.bind (α:=(Bool×aQ×hI×Unit)) (bif decide (d<0)==false then bif decide (d>=a)==false then rd g d λs=>some (s,e,g,()) else some (true,e,g,()) else some (true,e,g,())) λ(o,k,p,_)=>bif o then some (.inr (.inr (.inr (.inr ([],false,()))))) else some (.inl (k,p,()))) λb=>match b with
 |.inl (l,q,_)=>(wr l d f λt=>wr q d true λu=>some (.inl (t,u,())))
 |.inr c=>some c) λb=>match b with
 |.inl (m,r,_)=>(some (.inl (aS f,m,r,())))
 |.inr c=>some c) else some (.inr (.inl (e,())))) (0,List.replicate i (0:Int),List.replicate j false,())).bind λb=>match b with
 |.inl (n,_)=>(some (n,true,()))
 |.inr c=>some c))
def tX:k7->Option iP:=λ(b,_)=>(loop (σ:=oN) (ρ:=iP) (λ(a,e,_)=>bif decide (a<b.2.1) then(ay b.2.2.1 a).bind λj=>(loop (σ:=oN) (ρ:=iP) (λ(c,d,_)=>(ay b.2.2.1 (aS a)).bind λk=>bif decide (c<k) then(ay b.2.2.2.1 c).bind λf=>(ay b.2.2.2.2.1 c).bind λg=>(bK (d.length+([(f,(a,(g,())))]).length)).bind λ_=>some (.inl (aS c,(d++[(f,(a,(g,())))]),())) else some (.inr (d,()))) (j,e,())).bind λ(h,_)=>some (.inl (aS a,h,())) else some (.inr (e,()))) (0,[],())).bind λ(i,_)=>some (i,())
def CT:iP->Option iP:=λ(a,_)=>mz a.length (some ([],())) ((bK (([]:jL).length+a.length)).bind λ_=>some (([]++a),()))
def zw:((Int×(Int×bb))×(Int×(Int×bb))×Unit)->Option bb:=λ(a,b,_)=>(tM (a.2.1,b.2.1,())).bind λ(c,_)=>(tM (a.1,b.1,())).bind λ(aL,_)=>(yU ([c,aL],())).bind λ(d,_)=>some (d,())
def wd:(jL×Int×Int×Unit×Unit)->Option iP:=λ(h,e,g,_,_)=>(loop (σ:=oN) (ρ:=iP) (λ(d,f,_)=>bif decide (d<g) then(loop (σ:=oN) (ρ:=iP) (λ(a,b,_)=>Option.bind (α:=iP⊕(oN⊕iP)) (bif decide (a>e)==true then rd b a λn=>rd b (au (a-1)) λo=>(zw (n,o,())).bind λ(m,_)=>bif decide (m<0) then some (.inl (b,())) else some (.inr (.inr (b,()))) else some (.inr (.inr (b,())))) λk=>match k with
 |.inl (c,_)=>(rd c (au (a-1)) λp=>rd c a λq=>wr c a p λr=>wr r (au (a-1)) q λs=>some (.inl (au (a-1),s,())))
 |.inr l=>some l) (d,f,())).bind λ(i,_)=>some (.inl (aS d,i,())) else some (.inr (f,()))) (aS e,h,())).bind λ(j,_)=>some (j,())
def CY:(jL×Int×Unit×Unit)->Option iP:=λ(g,b,_,_)=>(loop (σ:=Cn) (ρ:=oN) (λ(c,a,d,_)=>bif decide (a<=b) then(wd (d,c,a,(),())).bind λ(l,_)=>some (.inl (a,au (a+20),l,())) else some (.inr (c,d,()))) (0,20,g,())).bind λ(e,j,_)=>(wd (j,e,b,(),())).bind λ(k,_)=>(loop (σ:=oN) (ρ:=iP) (λ(f,h,_)=>bif decide (f<b) then none else some (.inr (h,()))) (20,k,())).bind λ(i,_)=>some (i,())
def CX:(jL×Unit×Unit)->Option iP:=λ(a,_,_)=>(CY (a,aq a,(),())).bind λ(b,_)=>some (b,())
def zv:iP->Option iP:=λ(a,_)=>(CT (a,())).bind λ(c,_)=>(CX (c,(),())).bind λ(b,_)=>some (b,())
def zt:Cn->Option k7:=λ(s,e,o,_)=>(ej (aS e) (aS e)).bind λr=>(zv (o,())).bind λ(i,_)=>(loop (σ:=(Int×bF×bF×jL×Unit)) (ρ:=(bF×bF×Unit)) (λ(f,k,a,l,_)=>bif decide (f<aq i) then rd l f λb=>(bK ((a.2.2.2.1).length+([b.1]).length)).bind λ_=>(bK ((a.2.2.2.2.1).length+([b.2.2.1]).length)).bind λ_=>(bx (((a.1,(a.2.1,(a.2.2.1,((a.2.2.2.1++[b.1]),a.2.2.2.2)))).1,((a.1,(a.2.1,(a.2.2.1,((a.2.2.2.1++[b.1]),a.2.2.2.2)))).2.1,((a.1,(a.2.1,(a.2.2.1,((a.2.2.2.1++[b.1]),a.2.2.2.2)))).2.2.1,((a.1,(a.2.1,(a.2.2.1,((a.2.2.2.1++[b.1]),a.2.2.2.2)))).2.2.2.1,(((a.1,(a.2.1,(a.2.2.1,((a.2.2.2.1++[b.1]),a.2.2.2.2)))).2.2.2.2.1++[b.2.2.1]),(a.1,(a.2.1,(a.2.2.1,((a.2.2.2.1++[b.1]),a.2.2.2.2)))).2.2.2.2.2))))).2.2.1).length (aS b.2.1)).bind λn=>(bi ((a.1,(a.2.1,(a.2.2.1,((a.2.2.2.1++[b.1]),a.2.2.2.2)))).1,((a.1,(a.2.1,(a.2.2.1,((a.2.2.2.1++[b.1]),a.2.2.2.2)))).2.1,((a.1,(a.2.1,(a.2.2.1,((a.2.2.2.1++[b.1]),a.2.2.2.2)))).2.2.1,((a.1,(a.2.1,(a.2.2.1,((a.2.2.2.1++[b.1]),a.2.2.2.2)))).2.2.2.1,(((a.1,(a.2.1,(a.2.2.1,((a.2.2.2.1++[b.1]),a.2.2.2.2)))).2.2.2.2.1++[b.2.2.1]),(a.1,(a.2.1,(a.2.2.1,((a.2.2.2.1++[b.1]),a.2.2.2.2)))).2.2.2.2.2))))).2.2.1 n λm=>some m).bind λu=>
 (bx (((a.1,(a.2.1,(a.2.2.1,((a.2.2.2.1++[b.1]),a.2.2.2.2)))).1,((a.1,(a.2.1,(a.2.2.1,((a.2.2.2.1++[b.1]),a.2.2.2.2)))).2.1,((a.1,(a.2.1,(a.2.2.1,((a.2.2.2.1++[b.1]),a.2.2.2.2)))).2.2.1,((a.1,(a.2.1,(a.2.2.1,((a.2.2.2.1++[b.1]),a.2.2.2.2)))).2.2.2.1,(((a.1,(a.2.1,(a.2.2.1,((a.2.2.2.1++[b.1]),a.2.2.2.2)))).2.2.2.2.1++[b.2.2.1]),(a.1,(a.2.1,(a.2.2.1,((a.2.2.2.1++[b.1]),a.2.2.2.2)))).2.2.2.2.2))))).2.2.1).length (aS b.2.1)).bind λg=>((((bi ((a.1,(a.2.1,(a.2.2.1,((a.2.2.2.1++[b.1]),a.2.2.2.2)))).1,((a.1,(a.2.1,(a.2.2.1,((a.2.2.2.1++[b.1]),a.2.2.2.2)))).2.1,((a.1,(a.2.1,(a.2.2.1,((a.2.2.2.1++[b.1]),a.2.2.2.2)))).2.2.1,((a.1,(a.2.1,(a.2.2.1,((a.2.2.2.1++[b.1]),a.2.2.2.2)))).2.2.2.1,(((a.1,(a.2.1,(a.2.2.1,((a.2.2.2.1++[b.1]),a.2.2.2.2)))).2.2.2.2.1++[b.2.2.1]),(a.1,(a.2.1,(a.2.2.1,((a.2.2.2.1++[b.1]),a.2.2.2.2)))).2.2.2.2.2))))).2.2.1 g λ_=>some ((((a.1,(a.2.1,(a.2.2.1,((a.2.2.2.1++[b.1]),a.2.2.2.2)))).1,((a.1,(a.2.1,(a.2.2.1,((a.2.2.2.1++[b.1]),a.2.2.2.2)))).2.1,((a.1,(a.2.1,(a.2.2.1,((a.2.2.2.1++[b.1]),a.2.2.2.2)))).2.2.1,((a.1,(a.2.1,(a.2.2.1,((a.2.2.2.1++[b.1]),a.2.2.2.2)))).2.2.2.1,(((a.1,(a.2.1,(a.2.2.1,((a.2.2.2.1++[b.1]),a.2.2.2.2)))).2.2.2.2.1++[b.2.2.1]),(a.1,(a.2.1,(a.2.2.1,((a.2.2.2.1++[b.1]),a.2.2.2.2)))).2.2.2.2.2))))).2.2.1).set g (aS u))).map λx=>(x,((a.1,(a.2.1,(a.2.2.1,((a.2.2.2.1++[b.1]),a.2.2.2.2)))).1,((a.1,(a.2.1,(a.2.2.1,((a.2.2.2.1++[b.1]),a.2.2.2.2)))).2.1,((a.1,(a.2.1,(a.2.2.1,((a.2.2.2.1++[b.1]),a.2.2.2.2)))).2.2.1,((a.1,(a.2.1,(a.2.2.1,((a.2.2.2.1++[b.1]),a.2.2.2.2)))).2.2.2.1,(((a.1,(a.2.1,(a.2.2.1,((a.2.2.2.1++[b.1]),a.2.2.2.2)))).2.2.2.2.1++[b.2.2.1]),(a.1,(a.2.1,(a.2.2.1,((a.2.2.2.1++[b.1]),a.2.2.2.2)))).2.2.2.2.2))))).2.2.2)).map λy=>(((a.1,(a.2.1,(a.2.2.1,((a.2.2.2.1++[b.1]),a.2.2.2.2)))).1,((a.1,(a.2.1,(a.2.2.1,((a.2.2.2.1++[b.1]),a.2.2.2.2)))).2.1,((a.1,(a.2.1,(a.2.2.1,((a.2.2.2.1++[b.1]),a.2.2.2.2)))).2.2.1,((a.1,(a.2.1,(a.2.2.1,((a.2.2.2.1++[b.1]),a.2.2.2.2)))).2.2.2.1,(((a.1,(a.2.1,(a.2.2.1,((a.2.2.2.1++[b.1]),a.2.2.2.2)))).2.2.2.2.1++[b.2.2.1]),(a.1,(a.2.1,(a.2.2.1,((a.2.2.2.1++[b.1]),a.2.2.2.2)))).2.2.2.2.2))))).2.1,y)).map λz=>(((a.1,(a.2.1,(a.2.2.1,((a.2.2.2.1++[b.1]),a.2.2.2.2)))).1,((a.1,(a.2.1,(a.2.2.1,((a.2.2.2.1++[b.1]),a.2.2.2.2)))).2.1,((a.1,(a.2.1,(a.2.2.1,((a.2.2.2.1++[b.1]),a.2.2.2.2)))).2.2.1,((a.1,(a.2.1,(a.2.2.1,((a.2.2.2.1++[b.1]),a.2.2.2.2)))).2.2.2.1,(((a.1,(a.2.1,(a.2.2.1,((a.2.2.2.1++[b.1]),a.2.2.2.2)))).2.2.2.2.1++[b.2.2.1]),(a.1,(a.2.1,(a.2.2.1,((a.2.2.2.1++[b.1]),a.2.2.2.2)))).2.2.2.2.2))))).1,z)).bind λA=>
 some (.inl (aS f,k,A,l,())) else some (.inr (k,a,()))) (0,((0:Int),((0:Int),([],([],([],()))))),(s,(e,(List.replicate r (0:Int),(([]:aQ),(([]:aQ),()))))),i,())).bind λ(t,p,_)=>(loop (σ:=(Int×bF×bF×Unit)) (ρ:=(bF×bF×Unit)) (λ(d,j,c,_)=>bif decide (d<e) then rd c.2.2.1 (aS d) λv=>rd c.2.2.1 d λw=>(bx (c.2.2.1).length (aS d)).bind λh=>((((bi c.2.2.1 h λ_=>some ((c.2.2.1).set h (au (v+w)))).map λB=>(B,c.2.2.2)).map λC=>(c.2.1,C)).map λD=>(c.1,D)).bind λE=>some (.inl (aS d,j,E,())) else some (.inr (j,c,()))) (0,t,p,())).bind λ(_,q,_)=>some (q,())
def zr:k7->Option (bF×Int×Unit):=λ(a,_)=>(qj (a,())).bind λ(aL,_)=>(bif aL !=0 then some (((0:Int),((0:Int),(([]:aQ),(([]:aQ),(([]:aQ),()))))),aL,()) else(tX (a,())).bind λ(g,_)=>(loop (σ:=(Int×bF×jL×jL×Unit)) (ρ:=(bF×jL×Unit)) (λ(d,e,b,f,_)=>bif decide (d<aq g) then Option.bind (α:=(bF×jL×jL×Unit)) (rd f d λc=>bif decide (c.1>=c.2.1) then(bK (b.length+([c]).length)).bind λ_=>some (e,(b++[c]),f,()) else some (e,b,f,())) λ(k,h,l,_)=>some (.inl (aS d,k,h,l,())) else some (.inr (e,b,()))) (0,((0:Int),((0:Int),([],([],([],()))))),[],g,())).bind λ(_,i,_)=>(zt (a.1,a.2.1,i,())).bind λ(j,_)=>some (j,0,()))
def zq:k7->Option iP:=λ(a,_)=>(qj (a,())).bind λ(aL,_)=>(bif aL !=0 then some ([],()) else(tX (a,())).bind λ(b,_)=>some (b,()))
def vX:k7->Option ((List aQ×Unit)×Int×Unit):=λ(a,_)=>(qj (a,())).bind λ(c,_)=>(bif c !=0 then some ((([]:List aQ),()),c,()) else bif a.1 !=a.2.1 then some ((([]:List aQ),()),5,()) else(vY (a.2.1,())).bind λ(j,_)=>(zq (a,())).bind λ(aL,_)=>(loop (σ:=(Int×(List aQ×Unit)×List hI×jL×Unit)) (ρ:=((List aQ×Unit)×List hI×Unit)) (λ(b,d,e,f,_)=>bif decide (b<aq aL) then rd f b λg=>(v5 (e,g.1,g.2.1,())).bind λ(h,_)=>some (.inl (aS b,d,h,f,())) else some (.inr (d,e,()))) (0,([],()),j,aL,())).bind λ(_,k,_)=>(v2 (k,())).bind λ(i,_)=>some (i,0,()))
def qs:(bF×aQ×Unit)->Option (Option ma×Int×Unit):=λ(a,q,_)=>(qj (a,())).bind λ(r,_)=>(bif r !=0 then some (none,r,()) else bif a.1 !=a.2.1 then some (none,5,()) else(An (q,a.2.1,())).bind λ(s,E,_)=>bif !E then some (none,90,()) else(zr (a,())).bind λ(F,_,_)=>(vX (F,())).bind λ(G,_,_)=>(vZ (G,q,())).bind λ(t,_,_)=>(ej a.2.1 a.2.1).bind λp=>(loop (σ:=(Int×bF×ma×Unit)) (ρ:=(bF×ma×Unit)) (λ(j,k,c,_)=>bif decide (j<aq ((a.2.1,(t,(List.replicate p (none:Option (List (Int×bD)×Nat)),()))).2.2.1)) then(bx (c.2.2.1).length j).bind λn=>((((bi c.2.2.1 n λ_=>some ((c.2.2.1).set n (some ([],0)))).map λL=>(L,c.2.2.2)).map λM=>(c.2.1,M)).map λN=>(c.1,N)).bind λO=>some (.inl (aS j,k,O,())) else some (.inr (k,c,()))) (0,a,(a.2.1,(t,(List.replicate p (none:Option (List (Int×bD)×Nat)),()))),())).bind λ(l,z,_)=>
 (loop (σ:=(Int×bF×ma×Unit)) (ρ:=(ma×Unit)) (λ(e,m,o,_)=>bif decide (e<l.2.1) then(ay m.2.2.1 e).bind λI=>(loop (σ:=(Int×bF×ma×Unit)) (ρ:=(bF×ma×Unit)) (λ(f,d,b,_)=>(ay d.2.2.1 (aS e)).bind λJ=>bif decide (f<J) then Option.bind (α:=(bF×ma×Unit)) ((ay d.2.2.2.1 f).bind λu=>bif decide (u>=e) then(ay s u).bind λg=>(ay s e).bind λh=>(bx (b.2.2.1).length (if h<g then h else g)).bind λi=>(ay d.2.2.2.2.1 f).bind λK=>(nY (K,())).bind λ(H,_)=>(bi b.2.2.1 i λx=>some x).bind λC=>(pg C (if h>g then h else g) H).bind λD=>((((bi b.2.2.1 i λ_=>some ((b.2.2.1).set i D)).map λP=>(P,b.2.2.2)).map λQ=>(b.2.1,Q)).map λR=>(b.1,R)).bind λS=>some (d,S,()) else some (d,b,())) λ(v,A,_)=>some (.inl (aS f,v,A,())) else some (.inr (d,b,()))) (I,m,o,())).bind λ(w,B,_)=>
 some (.inl (aS e,w,B,())) else some (.inr (o,()))) (0,l,z,())).bind λ(y,_)=>some (some y,0,()))
def yO:(Option ma×Unit)->Option (kH×Unit):=λ(d,_)=>d.bind λx=>(Al (x.2.1,())).bind λ(e,_,_)=>d.bind λk=>(ej k.1 k.1).bind λt=>d.bind λl=>(ej l.1 l.1).bind λu=>d.bind λm=>(ej m.1 m.1).bind λs=>(loop (σ:=(Int×kH×Unit)) (ρ:=(kH×Unit)) (λ(b,h,_)=>bif decide (b<aq e) then(ay e b).bind λj=>(loop (σ:=(Int×kH×Unit)) (ρ:=(kH×Unit)) (λ(f,a,_)=>bif decide (f<aq j) then Option.bind (α:=(kH×Unit)) ((ay j f).bind λg=>bif decide (g>b) then(bx (a.2.2.2.1).length g).bind λi=>(bi a.2.2.2.1 i λq=>some q).bind λv=>(bK (v.length+([b]).length)).bind λ_=>(bx (a.2.2.2.1).length g).bind λc=>bif Nat.beq i c&&true then(bi a.2.2.2.1 c λr=>some r).bind λw=>(((((bi a.2.2.2.1 c λ_=>some ((a.2.2.2.1).set c (w++[b]))).map λy=>(y,a.2.2.2.2)).map λz=>(a.2.2.1,z)).map λA=>(a.2.1,A)).map λB=>(a.1,B)).bind λC=>
 some (C,()) else none else some (a,())) λ(n,_)=>some (.inl (aS f,n,())) else some (.inr (a,()))) (0,h,())).bind λ(o,_)=>some (.inl (aS b,o,())) else some (.inr (h,()))) (0,(e,(List.replicate t [],(List.replicate u (none:Option (List (Int×bD)×Nat)),(List.replicate s [],())))),())).bind λ(p,_)=>some (p,())
def wN:(Option ma×Int×Int×Unit)->Option ee:=λ(c,a,b,_)=>c.bind λd=>(ay d.2.2.1 (if b<a then b else a)).bind λe=>some (((iG (α:=bD) e (if b>a then b else a)).getD (false,((false,([],())),((0:Int),())))),())
def vN:(Option kH×Option ma×Int×Int×Unit)->Option ee:=λ(b,k,c,d,_)=>(wN (k,c,d,())).bind λ(n,_)=>b.bind λu=>(ay u.2.2.2.1 d).bind λj=>(loop (σ:=(Int×bD×fF×Unit)) (ρ:=(bD×fF×Unit)) (λ(e,f,a,_)=>bif decide (e<aq j) then Option.bind (α:=(bD×fF×Unit)) ((ay j e).bind λh=>b.bind λr=>(ay r.2.2.1 h).bind λi=>bif (iG (α:=bD) i c).isSome then b.bind λs=>(ay s.2.2.1 h).bind λt=>(vP (((iG (α:=bD) i c).getD (false,((false,([],())),((0:Int),())))),((iG (α:=bD) t d).getD (false,((false,([],())),((0:Int),())))),())).bind λ(l,_)=>(vQ (l,())).bind λ(g,_)=>(bK (a.length+([g]).length)).bind λ_=>some (f,(a++[g]),()) else some (f,a,())) λ(o,p,_)=>some (.inl (aS e,o,p,())) else some (.inr (f,a,()))) (0,(false,((false,([],())),((0:Int),()))),[n],())).bind λ(_,q,_)=>(vS (q,())).bind λ(m,_)=>
 some (m,())
def yP:(kH×Option ma×Int×Unit)->Option (kH×Int×Unit):=λ(c,u,b,_)=>(vN (some c,u,b,b,())).bind λ(aL,_)=>(oV (aL,())).bind λ(M,_)=>(bif decide (M<=0) then some (c,231,()) else(y9 (aL,0,())).bind λ(h,_)=>(y7 (h,())).bind λ(N,_)=>bif N==0 then some (c,231,()) else(nY (h,())).bind λ(O,_)=>(pg (some ([],0)) b O).bind λE=>(bx (c.2.1).length b).bind λp=>(((bi c.2.1 p λ_=>some ((c.2.1).set p [h])).map λR=>(R,c.2.2)).map λS=>(c.1,S)).bind λe=>(bx (e.2.2.1).length b).bind λq=>((((bi e.2.2.1 q λ_=>some ((e.2.2.1).set q E)).map λT=>(T,e.2.2.2)).map λU=>(e.2.1,U)).map λV=>(e.1,V)).bind λo=>(qg (h,())).bind λ(H,_)=>bif !H then some (o,233,()) else((ay o.1 b).bind λl=>((fH 1).bind λs=>(some l.length).bind λt=>(gh s t l.length).map λ_=>(s,t)).bind λj=>
 (loop (σ:=(Int×kH×Unit)) (ρ:=((kH×Unit)⊕(kH×Int×Unit))) (λ(n,a,_)=>bif decide (n<aq ((l.take j.2).drop j.1)) then(ay ((l.take j.2).drop j.1) n).bind λm=>(vN (some a,u,m,b,())).bind λ(I,_)=>(nY (h,())).bind λ(J,_)=>(y8 (I,J,0,())).bind λ(k,_)=>(qg (k,())).bind λ(K,_)=>bif !K then some (.inr (.inr (a,233,()))) else(bx (a.2.2.1).length b).bind λd=>(bx (a.2.1).length b).bind λr=>(bi a.2.1 r λx=>some x).bind λP=>(bK (P.length+([k]).length)).bind λ_=>(nY (k,())).bind λ(L,_)=>(bx (a.2.1).length b).bind λi=>bif Nat.beq r i&&true then(bi a.2.1 i λy=>some y).bind λQ=>(((bi a.2.1 i λ_=>some ((a.2.1).set i (Q++[k]))).map λW=>(W,a.2.2)).map λX=>(a.1,X)).bind λf=>(bi f.2.2.1 d λz=>some z).bind λv=>(pg v m ((iG (α:=bD) v m).getD (false,((false,([],())),((0:Int),()))))).bind λC=>
 ((((bi f.2.2.1 d λ_=>some ((f.2.2.1).set d C)).map λY=>(Y,f.2.2.2)).map λZ=>(f.2.1,Z)).map λad=>(f.1,ad)).bind λg=>bif Nat.beq d d&&true then(bi g.2.2.1 d λA=>some A).bind λB=>(pg B m L).bind λD=>((((bi g.2.2.1 d λ_=>some ((g.2.2.1).set d D)).map λam=>(am,g.2.2.2)).map λan=>(g.2.1,an)).map λap=>(g.1,ap)).bind λav=>some (.inl (aS n,av,())) else none else none else some (.inr (.inl (a,())))) (0,o,())).bind λF=>match F with
 |.inl (w,_)=>(some (w,0,()))
 |.inr G=>some G))
def zz:eF->Option eF:=λ(a,_)=>mz a.length (some ([],())) ((bK (([]:aQ).length+a.length)).bind λ_=>some (([]++a),()))
def yQ:(Option kH×aQ×Unit)->Option (dY×Unit):=λ(e,h,_)=>(zz (h,())).bind λ(i,_)=>e.bind λk=>(loop (σ:=(Int×dY×dY×Unit)) (ρ:=(dY×dY×Unit)) (λ(d,f,a,_)=>bif decide (d<aq k.1) then e.bind λl=>(ay l.1 d).bind λb=>(bK ((a.2.2.1).length+b.length)).bind λ_=>e.bind λj=>(ay j.2.1 d).bind λc=>(bK (((a.1,(a.2.1,((a.2.2.1++b),a.2.2.2))).2.2.2.1).length+c.length)).bind λ_=>(bK ((((a.1,(a.2.1,((a.2.2.1++b),a.2.2.2))).1,((a.1,(a.2.1,((a.2.2.1++b),a.2.2.2))).2.1,((a.1,(a.2.1,((a.2.2.1++b),a.2.2.2))).2.2.1,(((a.1,(a.2.1,((a.2.2.1++b),a.2.2.2))).2.2.2.1++c),(a.1,(a.2.1,((a.2.2.1++b),a.2.2.2))).2.2.2.2)))).2.1).length+([aq (((a.1,(a.2.1,((a.2.2.1++b),a.2.2.2))).1,((a.1,(a.2.1,((a.2.2.1++b),a.2.2.2))).2.1,((a.1,(a.2.1,((a.2.2.1++b),a.2.2.2))).2.2.1,(((a.1,(a.2.1,((a.2.2.1++b),a.2.2.2))).2.2.2.1++c),(a.1,(a.2.1,((a.2.2.1++b),a.2.2.2))).2.2.2.2)))).2.2.1)]).length)).bind λ_=>
 some (.inl (aS d,f,(((a.1,(a.2.1,((a.2.2.1++b),a.2.2.2))).1,((a.1,(a.2.1,((a.2.2.1++b),a.2.2.2))).2.1,((a.1,(a.2.1,((a.2.2.1++b),a.2.2.2))).2.2.1,(((a.1,(a.2.1,((a.2.2.1++b),a.2.2.2))).2.2.2.1++c),(a.1,(a.2.1,((a.2.2.1++b),a.2.2.2))).2.2.2.2)))).1,((((a.1,(a.2.1,((a.2.2.1++b),a.2.2.2))).1,((a.1,(a.2.1,((a.2.2.1++b),a.2.2.2))).2.1,((a.1,(a.2.1,((a.2.2.1++b),a.2.2.2))).2.2.1,(((a.1,(a.2.1,((a.2.2.1++b),a.2.2.2))).2.2.2.1++c),(a.1,(a.2.1,((a.2.2.1++b),a.2.2.2))).2.2.2.2)))).2.1++[aq (((a.1,(a.2.1,((a.2.2.1++b),a.2.2.2))).1,((a.1,(a.2.1,((a.2.2.1++b),a.2.2.2))).2.1,((a.1,(a.2.1,((a.2.2.1++b),a.2.2.2))).2.2.1,(((a.1,(a.2.1,((a.2.2.1++b),a.2.2.2))).2.2.2.1++c),(a.1,(a.2.1,((a.2.2.1++b),a.2.2.2))).2.2.2.2)))).2.2.1)]),((a.1,(a.2.1,((a.2.2.1++b),a.2.2.2))).1,((a.1,(a.2.1,((a.2.2.1++b),a.2.2.2))).2.1,((a.1,(a.2.1,((a.2.2.1++b),a.2.2.2))).2.2.1,(((a.1,(a.2.1,((a.2.2.1++b),a.2.2.2))).2.2.2.1++c),(a.1,(a.2.1,((a.2.2.1++b),a.2.2.2))).2.2.2.2)))).2.2)),())) else
 some (.inr (f,a,()))) (0,([],([],([],([],())))),(i,([0],(([]:aQ),(([]:aQ),())))),())).bind λ(_,g,_)=>some (g,())
def qc:(bF×aQ×Unit)->Option rF:=λ(g,e,_)=>(qs (g,e,())).bind λ(b,aL,_)=>(bif aL !=0 then some ((([]:aQ),(([]:aQ),(([]:aQ),(([]:aQ),())))),0,aL,()) else((yO (b,())).bind λ(m,_)=>b.bind λo=>(loop (σ:=(Int×dY×kH×Unit)) (ρ:=((dY×kH×Unit)⊕rF)) (λ(c,f,d,_)=>bif decide (c<o.1) then(yP (d,b,c,())).bind λ(i,a,_)=>bif a==0 then some (.inl (aS c,f,i,())) else bif a==231 then some (.inr (.inr ((([]:aQ),(([]:aQ),(([]:aQ),(([]:aQ),())))),c,a,()))) else some (.inr (.inr ((([]:aQ),(([]:aQ),(([]:aQ),(([]:aQ),())))),0,a,()))) else some (.inr (.inl (f,d,())))) (0,([],([],([],([],())))),m,())).bind λj=>match j with
 |.inl (_,h,_)=>((yQ (some h,e,())).bind λ(l,_)=>b.bind λn=>some (l,n.1,0,()))
 |.inr k=>some k))
def zJ:h0->Option dR:=λ(b,c,_)=>(bif aq b !=aq c then some (false,()) else((loop (σ:=bb) (ρ:=hZ) (λ(a,_)=>bif decide (a<aq b) then(ay b a).bind λf=>(ay c a).bind λg=>bif f !=g then some (.inr (.inr (false,()))) else some (.inl (aS a,())) else some (.inr (.inl ()))) (0,())).bind λd=>match d with
 |.inl _=>(some (true,()))
 |.inr e=>some e))
def zM:Unit->Option dR:=λ_=>(r6 (4,0,())).bind λ(b,_)=>(r6 (2,0,())).bind λ(a,_)=>(r6 (5,0,())).bind λ(c,_)=>(qc ((2,(2,([0,2,3],([0,1,1],([b,a,c],()))))),[0,1],())).bind λ(aL,d,e,_)=>(bif (e==0)==true then bif (d==2)==true then(zK (aL.2.1,[0,2,3],())).bind λ(f,_)=>bif f==true then(zJ (aL.2.2.2.1,[a,4607182418800017408,a],())).bind λ(g,_)=>some (g,()) else some (false,()) else some (false,()) else some (false,()))
def qk:k6->Option bb:=λ(a,b,_)=>(gU (aF a) (aF b)).bind λc=>some (au c,())
def wh:mb->Option bb:=λ(b,a,_)=>Option.bind (α:=bb) (bif decide (aq b>0) then(qk (a,aq b,())).bind λ(e,_)=>(ay b e).bind λf=>some (rj IntKind.u64 (aF (aF (aS a)*11400714819323198485)) f,()) else some (aF (aF (aS a)*11400714819323198485),())) λ(c,_)=>(dk IntKind.u64 c 31).bind λd=>(dk IntKind.u64 (aF (rj IntKind.u64 c d*13787848793156543929)) 29).bind λg=>some (rj IntKind.u64 (aF (rj IntKind.u64 c d*13787848793156543929)) g,())
def CZ:bb->Option bb:=λ(b,_)=>(gU b 19).bind λc=>(r6 (au (au c-9),0,())).bind λ(a,_)=>some (a,())
def zH:k6->Option bb:=λ(a,e,_)=>(qk (e,4,())).bind λ(b,_)=>(bif b==1 then(dk IntKind.u64 a 52).bind λf=>(gn IntKind.u64 (aF (1019+dr IntKind.u64 f 7)) 52).bind λg=>some (eA IntKind.u64 (dr IntKind.u64 a 9227875636482146303) g,()) else bif b==2 then(dk IntKind.u64 a 8).bind λh=>(gU h 81).bind λi=>(gn IntKind.u64 (aF (983+i)) 52).bind λj=>some (eA IntKind.u64 (dr IntKind.u64 a 9225623836668461056) j,()) else bif b==3 then(qo (a,())).bind λ(d,_)=>bif !d then some (0,()) else some (a,()) else(CZ (a,())).bind λ(c,_)=>some (c,()))
def tY:(aQ×Int×Int×Int×Unit)->Option k7:=λ(n,e,g,q,_)=>(loop (σ:=(Int×bF×bF×Unit)) (ρ:=(bF×bF×Unit)) (λ(d,k,h,_)=>bif decide (d<g) then(loop (σ:=(Int×bF×bF×Unit)) (ρ:=(bF×bF×Unit)) (λ(b,f,a,_)=>bif decide (b<e) then Option.bind (α:=(bF×bF×Unit)) ((wh (n,au (au (100+au (d*e))+b),())).bind λ(i,_)=>(dk IntKind.u64 i 40).bind λr=>(gU r 3).bind λs=>bif decide (s>0) then(bK ((a.2.2.2.1).length+([b]).length)).bind λ_=>(zH (i,q,())).bind λ(j,_)=>(bK (((a.1,(a.2.1,(a.2.2.1,((a.2.2.2.1++[b]),a.2.2.2.2)))).2.2.2.2.1).length+([j]).length)).bind λ_=>some (f,((a.1,(a.2.1,(a.2.2.1,((a.2.2.2.1++[b]),a.2.2.2.2)))).1,((a.1,(a.2.1,(a.2.2.1,((a.2.2.2.1++[b]),a.2.2.2.2)))).2.1,((a.1,(a.2.1,(a.2.2.1,((a.2.2.2.1++[b]),a.2.2.2.2)))).2.2.1,((a.1,(a.2.1,(a.2.2.1,((a.2.2.2.1++[b]),a.2.2.2.2)))).2.2.2.1,(((a.1,(a.2.1,(a.2.2.1,((a.2.2.2.1++[b]),a.2.2.2.2)))).2.2.2.2.1++[j]),(a.1,(a.2.1,(a.2.2.1,((a.2.2.2.1++[b]),a.2.2.2.2)))).2.2.2.2.2))))),()) else
 some (f,a,())) λ(o,l,_)=>some (.inl (aS b,o,l,())) else some (.inr (f,a,()))) (0,k,h,())).bind λ(p,c,_)=>(bK ((c.2.2.1).length+([aq c.2.2.2.1]).length)).bind λ_=>some (.inl (aS d,p,(c.1,(c.2.1,((c.2.2.1++[aq c.2.2.2.1]),c.2.2.2))),())) else some (.inr (k,h,()))) (0,((0:Int),((0:Int),([],([],([],()))))),(e,(g,([0],(([]:aQ),(([]:aQ),()))))),())).bind λ(_,m,_)=>some (m,())
def z7:eF->Option dR:=λ(b,_)=>(loop (σ:=bb) (ρ:=hZ) (λ(a,_)=>bif decide (a<aq b) then(ay b a).bind λe=>(qo (e,())).bind λ(aL,_)=>bif !aL then some (.inr (.inr (false,()))) else some (.inl (aS a,())) else some (.inr (.inl ()))) (0,())).bind λc=>match c with
 |.inl _=>(some (true,()))
 |.inr d=>some d
def o4:k7->Option bb:=λ(a,_)=>Option.bind (α:=Unit⊕bb) (bif decide (a.1<0)==false then bif decide (a.1>200)==false then bif decide (a.2.1<0)==false then bif decide (a.2.1>200)==false then bif decide (aq a.2.2.2.1>10000) then some (.inr (6,())) else some (.inl ()) else some (.inr (6,())) else some (.inr (6,())) else some (.inr (6,())) else some (.inr (6,()))) λb=>match b with
 |.inl _=>(Option.bind (α:=Unit⊕bb) (bif (aq a.2.2.2.2.1 !=aq a.2.2.2.1)==false then bif (aq a.2.2.1 !=aS a.2.1)==false then(ay a.2.2.1 0).bind λn=>bif (n !=0)==false then(ay a.2.2.1 a.2.1).bind λo=>bif o !=aq a.2.2.2.1 then some (.inr (1,())) else some (.inl ()) else some (.inr (1,())) else some (.inr (1,())) else some (.inr (1,()))) λb=>match b with
 |.inl _=>((loop (σ:=bb) (ρ:=iw) (λ(f,_)=>bif decide (f<a.2.1) then(ay a.2.2.1 f).bind λp=>(ay a.2.2.1 (aS f)).bind λq=>bif decide (p>q) then some (.inr (.inr (1,()))) else some (.inl (aS f,())) else some (.inr (.inl ()))) (0,())).bind λb=>match b with
 |.inl _=>((loop (σ:=bb) (ρ:=iw) (λ(e,_)=>bif decide (e<a.2.1) then((ay a.2.2.1 e).bind λr=>(loop (σ:=bb) (ρ:=(Unit⊕(bb⊕iw))) (λ(d,_)=>(ay a.2.2.1 (aS e)).bind λh=>bif decide (d<h) then(Option.bind (α:=Unit⊕(bb⊕(Unit⊕(bb⊕iw)))) ((ay a.2.2.2.1 d).bind λi=>bif decide (i<0)==false then(ay a.2.2.2.1 d).bind λj=>bif decide (j>=a.1)==false then(ay a.2.2.1 e).bind λk=>bif decide (d>k)==true then(ay a.2.2.2.1 d).bind λl=>(ay a.2.2.2.1 (au (d-1))).bind λm=>bif decide (l<=m) then some (.inr (.inr (.inr (.inr (.inr (1,())))))) else some (.inl ()) else some (.inl ()) else some (.inr (.inr (.inr (.inr (.inr (1,())))))) else some (.inr (.inr (.inr (.inr (.inr (1,()))))))) λb=>match b with
 |.inl _=>(some (.inl (aS d,())))
 |.inr c=>some c) else some (.inr (.inl ()))) (r,())).bind λb=>match b with
 |.inl _=>(some (.inl (aS e,())))
 |.inr c=>some c) else some (.inr (.inl ()))) (0,())).bind λb=>match b with
 |.inl _=>((z7 (a.2.2.2.2.1,())).bind λ(g,_)=>bif !g then some (4,()) else some (0,()))
 |.inr c=>some c)
 |.inr c=>some c)
 |.inr c=>some c)
 |.inr c=>some c
def qp:(bF×Int×Int×Unit)->Option bb:=λ(a,f,b,_)=>Option.bind (α:=Unit⊕bb) ((o4 (a,())).bind λ(aL,_)=>bif (aL !=0)==false then bif decide (b<0)==false then bif decide (b>=a.2.1) then some (.inr (0,())) else some (.inl ()) else some (.inr (0,())) else some (.inr (0,()))) λd=>match d with
 |.inl _=>((ay a.2.2.1 b).bind λg=>(loop (σ:=bb) (ρ:=iw) (λ(c,_)=>(ay a.2.2.1 (aS b)).bind λh=>bif decide (c<h) then(ay a.2.2.2.1 c).bind λi=>bif i==f then(ay a.2.2.2.2.1 c).bind λj=>some (.inr (.inr (j,()))) else some (.inl (aS c,())) else some (.inr (.inl ()))) (g,())).bind λd=>match d with
 |.inl _=>(some (0,()))
 |.inr e=>some e)
 |.inr e=>some e
def wA:(bF×Int×Int×Unit)->Option dR:=λ(a,c,b,_)=>Option.bind (α:=Unit⊕dR) (bif decide (c<0)==false then bif decide (c>=a.1)==false then bif decide (b<0)==false then bif decide (b>=a.2.1) then some (.inr (false,())) else some (.inl ()) else some (.inr (false,())) else some (.inr (false,())) else some (.inr (false,()))) λe=>match e with
 |.inl _=>((ay a.2.2.1 b).bind λg=>(loop (σ:=bb) (ρ:=hZ) (λ(d,_)=>(ay a.2.2.1 (aS b)).bind λh=>bif decide (d<h) then(ay a.2.2.2.1 d).bind λi=>bif i==c then some (.inr (.inr (true,()))) else some (.inl (aS d,())) else some (.inr (.inl ()))) (g,())).bind λe=>match e with
 |.inl _=>(some (false,()))
 |.inr f=>some f)
 |.inr f=>some f
def zG:(aQ×Int×Int×Unit)->Option k7:=λ(G,f,N,_)=>(qk (N,3,())).bind λ(aL,_)=>(tY (G,f,f,aL,())).bind λ(F,_)=>(loop (σ:=(Int×bF×bF×bF×Unit)) (ρ:=(bF×bF×Unit)) (λ(h,r,w,n,_)=>bif decide (h<f) then(loop (σ:=(Int×bF×bF×bF×Unit)) (ρ:=(bF×bF×bF×Unit)) (λ(c,j,g,a,_)=>bif decide (c<f) then Option.bind (α:=(bF×bF×bF×Unit)) (bif c==h then(wv (1,())).bind λ(A,_)=>(loop (σ:=(Int×bF×bF×bF×fF×Unit)) (ρ:=(bF×bF×bF×fF×Unit)) (λ(d,m,i,l,k,_)=>bif decide (d<f) then Option.bind (α:=(bF×bF×bF×fF×Unit)) (bif d !=c then(qp (i,(if d>c then d else c),(if d<c then d else c),())).bind λ(B,_)=>(o2 (B,())).bind λ(C,_)=>(wu (C,())).bind λ(o,_)=>(bK (k.length+([o]).length)).bind λ_=>some (m,i,l,(k++[o]),()) else some (m,i,l,k,())) λ(H,s,x,I,_)=>
 some (.inl (aS d,H,s,x,I,())) else some (.inr (m,i,l,k,()))) (0,j,g,a,[A],())).bind λ(J,t,b,K,_)=>(bK ((b.2.2.2.1).length+([c]).length)).bind λ_=>(ue (K,())).bind λ(D,_)=>(wx (D,2,())).bind λ(p,_)=>(bK (((b.1,(b.2.1,(b.2.2.1,((b.2.2.2.1++[c]),b.2.2.2.2)))).2.2.2.2.1).length+([p]).length)).bind λ_=>some (J,t,((b.1,(b.2.1,(b.2.2.1,((b.2.2.2.1++[c]),b.2.2.2.2)))).1,((b.1,(b.2.1,(b.2.2.1,((b.2.2.2.1++[c]),b.2.2.2.2)))).2.1,((b.1,(b.2.1,(b.2.2.1,((b.2.2.2.1++[c]),b.2.2.2.2)))).2.2.1,((b.1,(b.2.1,(b.2.2.1,((b.2.2.2.1++[c]),b.2.2.2.2)))).2.2.2.1,(((b.1,(b.2.1,(b.2.2.1,((b.2.2.2.1++[c]),b.2.2.2.2)))).2.2.2.2.1++[p]),(b.1,(b.2.1,(b.2.2.1,((b.2.2.2.1++[c]),b.2.2.2.2)))).2.2.2.2.2))))),()) else(wA (g,c,h,())).bind λ(E,_)=>bif E then(bK ((a.2.2.2.1).length+([c]).length)).bind λ_=>(qp (g,c,h,())).bind λ(q,_)=>
 (bK (((a.1,(a.2.1,(a.2.2.1,((a.2.2.2.1++[c]),a.2.2.2.2)))).2.2.2.2.1).length+([q]).length)).bind λ_=>some (j,g,((a.1,(a.2.1,(a.2.2.1,((a.2.2.2.1++[c]),a.2.2.2.2)))).1,((a.1,(a.2.1,(a.2.2.1,((a.2.2.2.1++[c]),a.2.2.2.2)))).2.1,((a.1,(a.2.1,(a.2.2.1,((a.2.2.2.1++[c]),a.2.2.2.2)))).2.2.1,((a.1,(a.2.1,(a.2.2.1,((a.2.2.2.1++[c]),a.2.2.2.2)))).2.2.2.1,(((a.1,(a.2.1,(a.2.2.1,((a.2.2.2.1++[c]),a.2.2.2.2)))).2.2.2.2.1++[q]),(a.1,(a.2.1,(a.2.2.1,((a.2.2.2.1++[c]),a.2.2.2.2)))).2.2.2.2.2))))),()) else some (j,g,a,())) λ(L,u,y,_)=>some (.inl (aS c,L,u,y,())) else some (.inr (j,g,a,()))) (0,r,w,n,())).bind λ(M,v,e,_)=>(bK ((e.2.2.1).length+([aq e.2.2.2.1]).length)).bind λ_=>some (.inl (aS h,M,v,(e.1,(e.2.1,((e.2.2.1++[aq e.2.2.2.1]),e.2.2.2))),())) else some (.inr (r,n,()))) (0,((0:Int),((0:Int),([],([],([],()))))),F,(f,(f,([0],(([]:aQ),(([]:aQ),()))))),())).bind λ(_,z,_)=>
 some (z,())
def we:mb->Option eF:=λ(m,j,_)=>(loop (σ:=mb) (ρ:=eF) (λ(a,c,_)=>bif decide (c<j) then(wh (m,au (700+c),())).bind λ(l,_)=>(dk IntKind.u64 l 1).bind λn=>(qk (au n,aS c,())).bind λ(i,_)=>((some (0)).bind λg=>(fH i).bind λh=>(gh g h a.length).map λ_=>(g,h)).bind λb=>(bK (([]:aQ).length+((a.take b.2).drop b.1).length)).bind λ_=>(bK (([]++((a.take b.2).drop b.1)).length+([c]).length)).bind λ_=>((fH i).bind λe=>(some a.length).bind λf=>(gh e f a.length).map λ_=>(e,f)).bind λd=>(bK ((([]++((a.take b.2).drop b.1))++[c]).length+((a.take d.2).drop d.1).length)).bind λ_=>some (.inl (((([]++((a.take b.2).drop b.1))++[c])++((a.take d.2).drop d.1)),aS c,())) else some (.inr (a,()))) ([],0,())).bind λ(k,_)=>some (k,())
def zN:(aQ×Int×Int×Bool×Unit)->Option (bF×aQ×Unit):=λ(b,e,c,d,_)=>(qk (e,6,())).bind λ(a,_)=>(bif d then(zG (b,a,c,())).bind λ(f,_)=>(we (b,a,())).bind λ(g,_)=>some (f,g,()) else(tY (b,a,a,c,())).bind λ(h,_)=>(we (b,a,())).bind λ(i,_)=>some (h,i,()))
def wL:mb->Option dR:=λ(b,c,_)=>(bif aq b !=c then some (false,()) else((ej c c).bind λg=>(loop (σ:=(Int×hI×Unit)) (ρ:=hZ) (λ(a,f,_)=>bif decide (a<c) then(Option.bind (α:=(hI×Unit)⊕((Int×hI×Unit)⊕hZ)) (Option.bind (α:=(hI×Unit)⊕((hI×Unit)⊕((Int×hI×Unit)⊕hZ))) ((ay b a).bind λl=>bif decide (l<0)==false then(ay b a).bind λm=>bif decide (m>=c)==false then(ay b a).bind λn=>rd f n λj=>bif j then some (.inr (.inr (.inr (.inr (false,()))))) else some (.inl (f,())) else some (.inr (.inr (.inr (.inr (false,()))))) else some (.inr (.inr (.inr (.inr (false,())))))) λd=>match d with
 |.inl (h,_)=>((ay b a).bind λk=>wr h k true λo=>some (.inl (o,())))
 |.inr e=>some e) λd=>match d with
 |.inl (i,_)=>(some (.inl (aS a,i,())))
 |.inr e=>some e) else some (.inr (.inl ()))) (0,List.replicate g false,())).bind λd=>match d with
 |.inl _=>(some (true,()))
 |.inr e=>some e))
def wM:(bF×aQ×Unit)->Option bb:=λ(a,c,_)=>(o4 (a,())).bind λ(b,_)=>(bif b !=0 then some (b,()) else bif a.1 !=a.2.1 then some (5,()) else(wL (c,a.1,())).bind λ(aL,_)=>bif !aL then some (90,()) else some (0,()))
def wz:k7->Option iP:=λ(b,_)=>(o4 (b,())).bind λ(j,_)=>(bif j !=0 then some ([],()) else(loop (σ:=oN) (ρ:=iP) (λ(a,e,_)=>bif decide (a<b.2.1) then(ay b.2.2.1 a).bind λk=>(loop (σ:=oN) (ρ:=iP) (λ(c,d,_)=>(ay b.2.2.1 (aS a)).bind λl=>bif decide (c<l) then(ay b.2.2.2.1 c).bind λf=>(ay b.2.2.2.2.1 c).bind λg=>(bK (d.length+([(f,(a,(g,())))]).length)).bind λ_=>some (.inl (aS c,(d++[(f,(a,(g,())))]),())) else some (.inr (d,()))) (k,e,())).bind λ(h,_)=>some (.inl (aS a,h,())) else some (.inr (e,()))) (0,[],())).bind λ(i,_)=>some (i,()))
def z9:Cn->Option k7:=λ(d,g,h,_)=>(ej (au (d*g)) (au (d*g))).bind λy=>(loop (σ:=(Int×bF×bF×aQ×Unit)) (ρ:=(bF×bF×aQ×Unit)) (λ(e,o,m,k,_)=>bif decide (e<aq h) then(ay h e).bind λD=>(ay h e).bind λC=>wr k (au (au (D.2.1*d)+C.1)) (aS e) λE=>some (.inl (aS e,o,m,E,())) else some (.inr (o,m,k,()))) (0,((0:Int),((0:Int),([],([],([],()))))),(d,(g,([0],(([]:aQ),(([]:aQ),()))))),List.replicate y (0:Int),())).bind λ(z,v,r,_)=>(loop (σ:=(Int×bF×bF×aQ×Unit)) (ρ:=(bF×bF×Unit)) (λ(i,n,l,s,_)=>bif decide (i<g) then(loop (σ:=(Int×bF×bF×aQ×Unit)) (ρ:=(bF×bF×aQ×Unit)) (λ(b,j,a,f,_)=>bif decide (b<d) then Option.bind (α:=(bF×bF×aQ×Unit)) (rd f (au (au (i*d)+b)) λp=>bif decide (p>0) then(bK ((a.2.2.2.1).length+([b]).length)).bind λ_=>(ay h (au (p-1))).bind λq=>
 (bK (((a.1,(a.2.1,(a.2.2.1,((a.2.2.2.1++[b]),a.2.2.2.2)))).2.2.2.2.1).length+([q.2.2.1]).length)).bind λ_=>some (j,((a.1,(a.2.1,(a.2.2.1,((a.2.2.2.1++[b]),a.2.2.2.2)))).1,((a.1,(a.2.1,(a.2.2.1,((a.2.2.2.1++[b]),a.2.2.2.2)))).2.1,((a.1,(a.2.1,(a.2.2.1,((a.2.2.2.1++[b]),a.2.2.2.2)))).2.2.1,((a.1,(a.2.1,(a.2.2.1,((a.2.2.2.1++[b]),a.2.2.2.2)))).2.2.2.1,(((a.1,(a.2.1,(a.2.2.1,((a.2.2.2.1++[b]),a.2.2.2.2)))).2.2.2.2.1++[q.2.2.1]),(a.1,(a.2.1,(a.2.2.1,((a.2.2.2.1++[b]),a.2.2.2.2)))).2.2.2.2.2))))),f,()) else some (j,a,f,())) λ(A,w,t,_)=>some (.inl (aS b,A,w,t,())) else some (.inr (j,a,f,()))) (0,n,l,s,())).bind λ(B,c,u,_)=>(bK ((c.2.2.1).length+([aq c.2.2.2.1]).length)).bind λ_=>some (.inl (aS i,B,(c.1,(c.2.1,((c.2.2.1++[aq c.2.2.2.1]),c.2.2.2))),u,())) else some (.inr (n,l,()))) (0,z,v,r,())).bind λ(_,x,_)=>
 some (x,())
def z8:k7->Option (bF×Int×Unit):=λ(b,_)=>(o4 (b,())).bind λ(aL,_)=>(bif aL !=0 then some (((0:Int),((0:Int),(([]:aQ),(([]:aQ),(([]:aQ),()))))),aL,()) else(wz (b,())).bind λ(d,_)=>(loop (σ:=(Int×bF×jL×Unit)) (ρ:=(bF×jL×Unit)) (λ(a,e,c,_)=>bif decide (a<aq d) then Option.bind (α:=(bF×jL×Unit)) ((ay d a).bind λl=>(ay d a).bind λk=>bif decide (l.1>=k.2.1) then(ay d a).bind λf=>(bK (c.length+([f]).length)).bind λ_=>some (e,(c++[f]),()) else some (e,c,())) λ(j,g,_)=>some (.inl (aS a,j,g,())) else some (.inr (e,c,()))) (0,((0:Int),((0:Int),([],([],([],()))))),[],())).bind λ(_,h,_)=>(z9 (b.1,b.2.1,h,())).bind λ(i,_)=>some (i,0,()))
def Ac:k7->Option ((List aQ×Unit)×Int×Unit):=λ(a,_)=>(o4 (a,())).bind λ(g,_)=>(bif g !=0 then some ((([]:List aQ),()),g,()) else bif a.1 !=a.2.1 then some ((([]:List aQ),()),5,()) else(wE (a.1,())).bind λ(l,_)=>(wz (a,())).bind λ(aL,_)=>(loop (σ:=(Int×(List aQ×Unit)×List hI×Unit)) (ρ:=((List aQ×Unit)×List hI×Unit)) (λ(c,h,b,_)=>bif decide (c<aq aL) then(ay aL c).bind λo=>(bx b.length o.1).bind λd=>(ay aL c).bind λn=>((bi b d λi=>some i).bind λj=>bx j.length n.2.1).bind λf=>(bi b d λe=>(bi e f λ_=>some (e.set f true)).map λp=>b.set d p).bind λq=>some (.inl (aS c,h,q,())) else some (.inr (h,b,()))) (0,([],()),l,())).bind λ(_,m,_)=>(wB (m,())).bind λ(k,_)=>some (k,0,()))
def Ai:(bF×aQ×Unit)->Option ((List aQ×Unit)×Unit):=λ(a,b,_)=>(z8 (a,())).bind λ(c,_,_)=>(Ac (c,())).bind λ(d,_,_)=>(wC (d,b,())).bind λ(e,_,_)=>some (e,())
def wK:(bF×aQ×Int×Int×Unit)->Option ee:=λ(d,c,e,f,_)=>(ay c e).bind λa=>(ay c f).bind λb=>(qp (d,(if b>a then b else a),(if b<a then b else a),())).bind λ(g,_)=>(o2 (g,())).bind λ(h,_)=>some (h,())
def ui:k6->Option ee:=λ(a,b,_)=>(o2 (a,())).bind λ(c,_)=>(o2 (b,())).bind λ(aL,_)=>(zW (c,aL,())).bind λ(d,_)=>some (d,())
def wJ:ee->Option bb:=λ(a,_)=>(z6 (a,0,())).bind λ(b,_)=>some (b,())
def Ag:bb->Option dR:=λ(a,_)=>(bif (a==0)==false then some ((a==9223372036854775808),()) else some (true,()))
def Ah:hH->Option bb:=λ(a,b,_)=>(z5 (a,b,0,())).bind λ(c,_)=>some (c,())
def r9:(bF×aQ×Unit)->Option rF:=λ(d,j,_)=>(wM (d,j,())).bind λ(E,_)=>(bif E !=0 then some ((([]:aQ),(([]:aQ),(([]:aQ),(([]:aQ),())))),0,E,()) else((Ai (d,j,())).bind λ(cs,_)=>(Af (cs,())).bind λ(F,_,_)=>(ej d.1 d.1).bind λci=>(loop (σ:=(Int×dY×List aQ×Unit)) (ρ:=(dY×List aQ×Unit)) (λ(p,I,C,_)=>bif decide (p<d.1) then(ej d.1 d.1).bind λco=>wr C p (List.replicate co (0:Int)) λfs=>some (.inl (aS p,I,fs,())) else some (.inr (I,C,()))) (0,([],([],([],([],())))),List.replicate ci [],())).bind λ(d4,a3,_)=>(bK (([]:aQ).length+j.length)).bind λ_=>(loop (σ:=tw) (ρ:=((dY×dY×Unit)⊕rF)) (λ(b,J,a4,v,_)=>bif decide (b<d.1) then((loop (σ:=tw) (ρ:=Co) (λ(n,K,D,w,_)=>(ay F b).bind λem=>bif decide (n<aq em) then(Option.bind (α:=(dY×List aQ×dY×Unit)⊕(tw⊕Co)) (
 (ay F b).bind λeq=>(ay eq n).bind λc=>(wK (d,j,c,b,())).bind λ(cv,_)=>(loop (σ:=(Int×dY×List aQ×dY×fF×Unit)) (ρ:=(dY×List aQ×dY×fF×Unit)) (λ(l,L,e,x,s,_)=>bif decide (l<b) then(bx e.length l).bind λy=>((bi e y λM=>some M).bind λN=>bx N.length c).bind λap=>(bi e y λO=>bi O ap λP=>some P).bind λex=>(bx e.length l).bind λz=>((bi e z λQ=>some Q).bind λR=>bx R.length b).bind λav=>(bi e z λS=>bi S av λT=>some T).bind λfn=>(ui (ex,fn,())).bind λ(dl,_)=>(ud (dl,())).bind λ(G,_)=>(bK (s.length+([G]).length)).bind λ_=>some (.inl (aS l,L,e,x,(s++[G]),())) else some (.inr (L,e,x,s,()))) (0,K,D,w,[cv],())).bind λ(t,i,o,d5,_)=>(ue (d5,())).bind λ(r,_)=>
 Option.bind (α:=tw⊕((dY×List aQ×dY×Unit)⊕(tw⊕Co))) (bif c==b then(wJ (r,())).bind λ(H,_)=>Option.bind (α:=(Bool×dY×List aQ×dY×Unit)) ((ww (r,())).bind λ(ds,_)=>bif decide (ds<=0)==false then(Ag (H,())).bind λ(d0,_)=>some (d0,t,i,o,()) else some (true,t,i,o,())) λ(d6,d7,bl,ad,_)=>bif d6 then some (.inr (.inr (.inr (.inr (.inr (.inr ((([]:aQ),(([]:aQ),(([]:aQ),(([]:aQ),())))),b,231,()))))))) else some (.inl (H,d7,bl,ad,())) else(bx i.length b).bind λA=>((bi i A λU=>some U).bind λV=>bx V.length b).bind λa0=>(bi i A λW=>bi W a0 λX=>some X).bind λfp=>(o2 (fp,())).bind λ(d1,_)=>(Ah (r,d1,())).bind λ(d2,_)=>some (.inl (d2,t,i,o,()))) λf=>match f with
 |.inl (m,d8,k,a,_)=>((qo (m,())).bind λ(d3,_)=>bif !d3 then some (.inr (.inr (.inr (.inr (.inr ((([]:aQ),(([]:aQ),(([]:aQ),(([]:aQ),())))),0,233,())))))) else(bx k.length b).bind λq=>((bi k q λY=>some Y).bind λZ=>bx Z.length c).bind λB=>(bi k q λu=>(bi u B λ_=>some (u.set B m)).map λft=>k.set q ft).bind λfz=>(bK ((a.2.2.1).length+([c]).length)).bind λ_=>(bK (((a.1,(a.2.1,((a.2.2.1++[c]),a.2.2.2))).2.2.2.1).length+([m]).length)).bind λ_=>some (.inl (d8,fz,((a.1,(a.2.1,((a.2.2.1++[c]),a.2.2.2))).1,((a.1,(a.2.1,((a.2.2.1++[c]),a.2.2.2))).2.1,((a.1,(a.2.1,((a.2.2.1++[c]),a.2.2.2))).2.2.1,(((a.1,(a.2.1,((a.2.2.1++[c]),a.2.2.2))).2.2.2.1++[m]),(a.1,(a.2.1,((a.2.2.1++[c]),a.2.2.2))).2.2.2.2)))),())))
 |.inr g=>some g) λf=>match f with
 |.inl (d9,bs,am,_)=>(some (.inl (aS n,d9,bs,am,())))
 |.inr g=>some g) else some (.inr (.inl (K,D,w,())))) (0,J,a4,v,())).bind λf=>match f with
 |.inl (el,ce,h,_)=>((bK ((h.2.1).length+([aq h.2.2.1]).length)).bind λ_=>some (.inl (aS b,el,ce,(h.1,((h.2.1++[aq h.2.2.1]),h.2.2)),())))
 |.inr g=>some g) else some (.inr (.inl (J,v,())))) (0,d4,a3,(([]++j),([0],(([]:aQ),(([]:aQ),())))),())).bind λf=>match f with
 |.inl (_,an,_)=>(some (an,d.1,0,()))
 |.inr g=>some g))
def yR:eF->Option dR:=λ(a,_)=>(ej (aq a) (aq a)).bind λg=>(loop (σ:=(Int×hI×Unit)) (ρ:=hZ) (λ(e,f,_)=>bif decide (e<aq a) then(Option.bind (α:=(hI×Unit)⊕((Int×hI×Unit)⊕hZ)) ((ay a e).bind λd=>Option.bind (α:=(hI×Unit)⊕((hI×Unit)⊕((Int×hI×Unit)⊕hZ))) (bif decide (d<0)==false then bif decide (d>=aq a)==false then rd f d λj=>bif j then some (.inr (.inr (.inr (.inr (false,()))))) else some (.inl (f,())) else some (.inr (.inr (.inr (.inr (false,()))))) else some (.inr (.inr (.inr (.inr (false,())))))) λb=>match b with
 |.inl (i,_)=>(wr i d true λk=>some (.inl (k,())))
 |.inr c=>some c) λb=>match b with
 |.inl (h,_)=>(some (.inl (aS e,h,())))
 |.inr c=>some c) else some (.inr (.inl ()))) (0,List.replicate g false,())).bind λb=>match b with
 |.inl _=>(some (true,()))
 |.inr c=>some c
def yS:(dY×Unit)->Option dR:=λ(a,_)=>Option.bind (α:=Unit⊕dR) ((ay a.2.1 0).bind λm=>bif (m !=0)==false then(ay a.2.1 (aq a.1)).bind λn=>bif n !=aq a.2.2.1 then some (.inr (false,())) else some (.inl ()) else some (.inr (false,()))) λc=>match c with
 |.inl _=>((loop (σ:=bb) (ρ:=hZ) (λ(e,_)=>bif decide (e<aq a.1) then(Option.bind (α:=Unit⊕(bb⊕hZ)) (Option.bind (α:=Unit⊕(Unit⊕(bb⊕hZ))) ((ay a.2.1 e).bind λo=>(ay a.2.1 (aS e)).bind λp=>bif decide (o>p)==false then(ay a.2.1 (aS e)).bind λq=>bif decide (q>aq a.2.2.1) then some (.inr (.inr (.inr (.inr (false,()))))) else some (.inl ()) else some (.inr (.inr (.inr (.inr (false,())))))) λc=>match c with
 |.inl _=>((ay a.2.1 e).bind λr=>(ay a.2.1 (aS e)).bind λs=>((fH r).bind λg=>(fH s).bind λh=>(gh g h (a.2.2.1).length).map λ_=>(g,h)).bind λb=>Option.bind (α:=Unit⊕(Unit⊕(bb⊕hZ))) (bif (aq (((a.2.2.1).take b.2).drop b.1)==0)==false then(ay (((a.2.2.1).take b.2).drop b.1) 0).bind λi=>bif (i !=e)==false then(ay (((a.2.2.1).take b.2).drop b.1) (au (aq (((a.2.2.1).take b.2).drop b.1)-1))).bind λj=>bif decide (j>=aq a.1) then some (.inr (.inr (.inr (.inr (false,()))))) else some (.inl ()) else some (.inr (.inr (.inr (.inr (false,()))))) else some (.inr (.inr (.inr (.inr (false,())))))) λc=>match c with
 |.inl _=>((loop (σ:=bb) (ρ:=(Unit⊕(Unit⊕(bb⊕hZ)))) (λ(f,_)=>bif decide (f<aq (((a.2.2.1).take b.2).drop b.1)) then(ay (((a.2.2.1).take b.2).drop b.1) (au (f-1))).bind λk=>(ay (((a.2.2.1).take b.2).drop b.1) f).bind λl=>bif decide (k>=l) then some (.inr (.inr (.inr (.inr (.inr (false,())))))) else some (.inl (aS f,())) else some (.inr (.inl ()))) (1,())).bind λc=>match c with
 |.inl _=>(some (.inl ()))
 |.inr d=>some d)
 |.inr d=>some d)
 |.inr d=>some d) λc=>match c with
 |.inl _=>(some (.inl (aS e,())))
 |.inr d=>some d) else some (.inr (.inl ()))) (0,())).bind λc=>match c with
 |.inl _=>(some (true,()))
 |.inr d=>some d)
 |.inr d=>some d
def rR:(dY×Unit)->Option bb:=λ(a,_)=>Option.bind (α:=Unit⊕bb) (bif decide (aq a.1>200) then some (.inr (6,())) else(yR (a.1,())).bind λ(h,_)=>bif !h then some (.inr (90,())) else Option.bind (α:=dR) (bif (aq a.2.1 !=aS (aq a.1))==false then some ((aq a.2.2.1 !=aq a.2.2.2.1),()) else some (true,())) λ(j,_)=>bif j then some (.inr (2,())) else(yS (a,())).bind λ(aL,_)=>bif !aL then some (.inr (240,())) else some (.inl ())) λb=>match b with
 |.inl _=>((loop (σ:=bb) (ρ:=iw) (λ(d,_)=>bif decide (d<aq a.2.2.2.1) then(ay a.2.2.2.1 d).bind λl=>(qg (l,())).bind λ(i,_)=>bif !i then some (.inr (.inr (4,()))) else some (.inl (aS d,())) else some (.inr (.inl ()))) (0,())).bind λb=>match b with
 |.inl _=>((loop (σ:=bb) (ρ:=iw) (λ(e,_)=>bif decide (e<aq a.1) then(ay a.2.1 e).bind λm=>(ay a.2.2.2.1 m).bind λk=>(nY (k,())).bind λ(f,_)=>(oV (f,())).bind λ(g,_)=>bif decide (g<=0) then some (.inr (.inr (4,()))) else some (.inl (aS e,())) else some (.inr (.inl ()))) (0,())).bind λb=>match b with
 |.inl _=>(some (0,()))
 |.inr c=>some c)
 |.inr c=>some c)
 |.inr c=>some c
def rU:(dY×Unit)->Option bb:=λ(a,_)=>(rR (a,())).bind λ(b,_)=>(bif b !=0 then some (b,()) else bif decide (aq a.1>64) then some (6,()) else some (0,()))
def rS:(dY×Unit)->Option (he×Int×Unit):=λ(a,_)=>(rU (a,())).bind λ(g,_)=>(bif g !=0 then some (((0:Int),((0:Int),(([]:aQ),()))),g,()) else(ej (au (aq a.1*aq a.1)) (au (aq a.1*aq a.1))).bind λj=>(loop (σ:=(Int×he×he×Unit)) (ρ:=(he×he×Unit)) (λ(c,i,f,_)=>bif decide (c<aq a.1) then(ay a.2.1 c).bind λn=>(loop (σ:=(Int×he×he×Unit)) (ρ:=(he×he×Unit)) (λ(d,h,b,_)=>(ay a.2.1 (aS c)).bind λo=>bif decide (d<o) then(ay a.2.2.1 d).bind λp=>(ay a.2.2.2.1 d).bind λq=>(bx (b.2.2.1).length (au (au (c*aq a.1)+p))).bind λe=>((((bi b.2.2.1 e λ_=>some ((b.2.2.1).set e q)).map λr=>(r,b.2.2.2)).map λs=>(b.2.1,s)).map λt=>(b.1,t)).bind λu=>some (.inl (aS d,h,u,())) else some (.inr (h,b,()))) (n,i,f,())).bind λ(m,k,_)=>some (.inl (aS c,m,k,())) else some (.inr (i,f,()))) (0,((0:Int),((0:Int),([],()))),(aq a.1,(aq a.1,(List.replicate j (0:Int),()))),())).bind λ(_,l,_)=>
 some (l,0,()))
def Aj:(aQ×Int×Int×Unit)->Option dR:=λ(a,c,f,_)=>Option.bind (α:=Unit⊕dR) (bif (aq a !=aS c)==false then(ay a 0).bind λg=>bif (g !=0)==false then(ay a c).bind λh=>bif h !=f then some (.inr (false,())) else some (.inl ()) else some (.inr (false,())) else some (.inr (false,()))) λd=>match d with
 |.inl _=>((loop (σ:=bb) (ρ:=hZ) (λ(b,_)=>bif decide (b<c) then(ay a b).bind λi=>(ay a (aS b)).bind λj=>bif decide (i>j) then some (.inr (.inr (false,()))) else some (.inl (aS b,())) else some (.inr (.inl ()))) (0,())).bind λd=>match d with
 |.inl _=>(some (true,()))
 |.inr e=>some e)
 |.inr e=>some e
def r7:(dY×Unit)->Option bb:=λ(a,_)=>Option.bind (α:=Unit⊕bb) (bif decide (aq a.1>200) then some (.inr (6,())) else(wL (a.1,aq a.1,())).bind λ(i,_)=>bif !i then some (.inr (90,())) else Option.bind (α:=dR) (bif (aq a.2.1 !=aS (aq a.1))==false then some ((aq a.2.2.1 !=aq a.2.2.2.1),()) else some (true,())) λ(l,_)=>bif l then some (.inr (2,())) else(Aj (a.2.1,aq a.1,aq a.2.2.1,())).bind λ(aL,_)=>bif !aL then some (.inr (240,())) else some (.inl ())) λb=>match b with
 |.inl _=>((loop (σ:=bb) (ρ:=iw) (λ(d,_)=>bif decide (d<aq a.1) then(Option.bind (α:=Unit⊕(bb⊕iw)) ((ay a.2.1 d).bind λw=>(loop (σ:=bb) (ρ:=(Unit⊕(Unit⊕(bb⊕iw)))) (λ(e,_)=>(ay a.2.1 (aS d)).bind λx=>bif decide (e<x) then(Option.bind (α:=Unit⊕(bb⊕(Unit⊕(Unit⊕(bb⊕iw))))) ((ay a.2.2.1 e).bind λy=>bif decide (y>=aq a.1)==false then(ay a.2.1 d).bind λm=>bif decide (e>m)==true then(ay a.2.2.1 e).bind λn=>(ay a.2.2.1 (au (e-1))).bind λo=>bif decide (n<=o) then some (.inr (.inr (.inr (.inr (.inr (.inr (240,()))))))) else some (.inl ()) else some (.inl ()) else some (.inr (.inr (.inr (.inr (.inr (.inr (240,())))))))) λb=>match b with
 |.inl _=>(some (.inl (aS e,())))
 |.inr c=>some c) else some (.inr (.inl ()))) (w,())).bind λb=>match b with
 |.inl _=>((ay a.2.1 d).bind λp=>(ay a.2.1 (aS d)).bind λq=>bif (p==q)==false then(ay a.2.1 d).bind λr=>(ay a.2.2.1 r).bind λs=>bif s !=d then some (.inr (.inr (.inr (240,())))) else some (.inl ()) else some (.inr (.inr (.inr (240,())))))
 |.inr c=>some c) λb=>match b with
 |.inl _=>(some (.inl (aS d,())))
 |.inr c=>some c) else some (.inr (.inl ()))) (0,())).bind λb=>match b with
 |.inl _=>((loop (σ:=bb) (ρ:=iw) (λ(g,_)=>bif decide (g<aq a.2.2.2.1) then(ay a.2.2.2.1 g).bind λt=>(qo (t,())).bind λ(h,_)=>bif !h then some (.inr (.inr (4,()))) else some (.inl (aS g,())) else some (.inr (.inl ()))) (0,())).bind λb=>match b with
 |.inl _=>((loop (σ:=bb) (ρ:=iw) (λ(f,_)=>bif decide (f<aq a.1) then(ay a.2.1 f).bind λu=>(ay a.2.2.2.1 u).bind λv=>(o2 (v,())).bind λ(j,_)=>(ww (j,())).bind λ(k,_)=>bif decide (k<=0) then some (.inr (.inr (4,()))) else some (.inl (aS f,())) else some (.inr (.inl ()))) (0,())).bind λb=>match b with
 |.inl _=>(some (0,()))
 |.inr c=>some c)
 |.inr c=>some c)
 |.inr c=>some c)
 |.inr c=>some c
def Ak:rF->Option bb:=λ(a,d,c,_)=>(ay a.2.1 c).bind λg=>(loop (σ:=bb) (ρ:=iw) (λ(b,_)=>(ay a.2.1 (aS c)).bind λh=>bif decide (b<h) then(ay a.2.2.1 b).bind λi=>bif i==d then(ay a.2.2.2.1 b).bind λj=>some (.inr (.inr (j,()))) else some (.inl (aS b,())) else some (.inr (.inl ()))) (g,())).bind λe=>match e with
 |.inl _=>(some (0,()))
 |.inr f=>some f
def qq:(dY×Unit)->Option (he×Int×Unit):=λ(a,_)=>(r7 (a,())).bind λ(g,_)=>(bif g !=0 then some (((0:Int),((0:Int),(([]:aQ),()))),g,()) else bif decide (aq a.1>64) then some (((0:Int),((0:Int),(([]:aQ),()))),6,()) else(loop (σ:=(Int×he×he×Unit)) (ρ:=(he×he×Unit)) (λ(d,h,e,_)=>bif decide (d<aq a.1) then(loop (σ:=(Int×he×he×Unit)) (ρ:=(he×he×Unit)) (λ(c,i,b,_)=>bif decide (c<aq a.1) then(Ak (a,c,d,())).bind λ(f,_)=>(bK ((b.2.2.1).length+([f]).length)).bind λ_=>some (.inl (aS c,i,(b.1,(b.2.1,((b.2.2.1++[f]),b.2.2.2))),())) else some (.inr (i,b,()))) (0,h,e,())).bind λ(l,j,_)=>some (.inl (aS d,l,j,())) else some (.inr (h,e,()))) (0,((0:Int),((0:Int),([],()))),(aq a.1,(aq a.1,(([]:aQ),()))),())).bind λ(_,k,_)=>some (k,0,()))
def qd:(dY×Unit)->Option yt:=λ(a,_)=>(rU (a,())).bind λ(l,_)=>(bif l !=0 then some (((0:Int),((0:Int),(([]:fF),()))),l,()) else(ej (au (aq a.1*aq a.1)) (au (aq a.1*aq a.1))).bind λA=>(loop (σ:=(Int×fM×List fF×Unit)) (ρ:=(fM×List fF×Unit)) (λ(d,n,s,_)=>bif decide (d<aq a.1) then(ay a.2.1 d).bind λK=>(loop (σ:=(Int×fM×List fF×Unit)) (ρ:=(fM×List fF×Unit)) (λ(f,o,t,_)=>(ay a.2.1 (aS d)).bind λL=>bif decide (f<L) then(ay a.2.1 d).bind λM=>(loop (σ:=(Int×fM×List fF×Unit)) (ρ:=(fM×List fF×Unit)) (λ(g,p,b,_)=>(ay a.2.1 (aS d)).bind λN=>bif decide (g<N) then(ay a.2.2.1 g).bind λu=>(ay a.2.2.1 f).bind λv=>(bx b.length (au (au (u*aq a.1)+v))).bind λi=>(ay a.2.2.2.1 f).bind λO=>(nY (O,())).bind λ(C,_)=>(ay a.2.2.2.1 g).bind λP=>(nY (P,())).bind λ(B,_)=>
 (vP (C,B,())).bind λ(j,_)=>(bi b i λy=>some y).bind λI=>(bK (I.length+([j]).length)).bind λ_=>(bx b.length (au (au (u*aq a.1)+v))).bind λe=>bif Nat.beq i e&&true then(bi b e λz=>some z).bind λJ=>(bi b e λ_=>some (b.set e (J++[j]))).bind λQ=>some (.inl (aS g,p,Q,())) else none else some (.inr (p,b,()))) (M,o,t,())).bind λ(D,G,_)=>some (.inl (aS f,D,G,())) else some (.inr (o,t,()))) (K,n,s,())).bind λ(E,H,_)=>some (.inl (aS d,E,H,())) else some (.inr (n,s,()))) (0,((0:Int),((0:Int),([],()))),List.replicate A [],())).bind λ(F,q,_)=>(loop (σ:=(Int×fM×List fF×fM×Unit)) (ρ:=p0) (λ(h,m,r,c,_)=>bif decide (h<aq q) then rd r h λw=>(vS (w,())).bind λ(k,_)=>(bK ((c.2.2.1).length+([k]).length)).bind λ_=>
 some (.inl (aS h,m,r,(c.1,(c.2.1,((c.2.2.1++[k]),c.2.2.2))),())) else some (.inr (m,c,()))) (0,F,q,(aq a.1,(aq a.1,(([]:fF),()))),())).bind λ(_,x,_)=>some (x,0,()))
def wI:k6->Option (fM×Unit):=λ(b,a,_)=>(ej (au (b*a)) (au (b*a))).bind λc=>some ((b,(a,(List.replicate c (false,((false,([],())),((0:Int),()))),()))),())
def qr:(dY×Unit)->Option yt:=λ(t,_)=>(qq (t,())).bind λ(a,m,_)=>(bif m !=0 then some (((0:Int),((0:Int),(([]:fF),()))),m,()) else(wI (a.1,a.1,())).bind λ(x,_)=>(loop (σ:=(Int×fM×he×fM×Unit)) (ρ:=p0) (λ(d,o,u,h,_)=>bif decide (d<a.1) then(loop (σ:=(Int×fM×he×fM×Unit)) (ρ:=(fM×he×fM×Unit)) (λ(c,p,l,i,_)=>bif decide (c<a.1) then(loop (σ:=(Int×fM×he×fM×fF×Unit)) (ρ:=(fM×he×fM×fF×Unit)) (λ(e,q,f,j,g,_)=>bif decide (e<a.1) then(ay f.2.2.1 (au (au (e*a.1)+c))).bind λC=>(ay f.2.2.1 (au (au (e*a.1)+d))).bind λD=>(ui (C,D,())).bind λ(n,_)=>(bK (g.length+([n]).length)).bind λ_=>some (.inl (aS e,q,f,j,(g++[n]),())) else some (.inr (q,f,j,g,()))) (0,p,l,i,[],())).bind λ(z,v,b,A,_)=>(ue (A,())).bind λ(y,_)=>
 (bx (b.2.2.1).length (au (au (d*a.1)+c))).bind λk=>((((bi b.2.2.1 k λ_=>some ((b.2.2.1).set k y)).map λE=>(E,b.2.2.2)).map λF=>(b.2.1,F)).map λG=>(b.1,G)).bind λH=>some (.inl (aS c,z,v,H,())) else some (.inr (p,l,i,()))) (0,o,u,h,())).bind λ(B,w,r,_)=>some (.inl (aS d,B,w,r,())) else some (.inr (o,h,()))) (0,((0:Int),((0:Int),([],()))),a,x,())).bind λ(_,s,_)=>some (s,0,()))
def oU:(bF×aQ×Unit)->Option yt:=λ(j,m,_)=>(qs (j,m,())).bind λ(b,f,_)=>(bif f !=0 then some (((0:Int),((0:Int),(([]:fF),()))),f,()) else b.bind λp=>bif decide (p.1>64) then some (((0:Int),((0:Int),(([]:fF),()))),6,()) else b.bind λq=>b.bind λr=>b.bind λs=>(loop (σ:=ys) (ρ:=p0) (λ(c,h,e,_)=>bif decide (c<s.1) then b.bind λt=>(loop (σ:=ys) (ρ:=p0) (λ(d,i,a,_)=>bif decide (d<t.1) then(wN (b,d,c,())).bind λ(n,_)=>(rW (n,())).bind λ(g,_)=>(bK ((a.2.2.1).length+([g]).length)).bind λ_=>some (.inl (aS d,i,(a.1,(a.2.1,((a.2.2.1++[g]),a.2.2.2))),())) else some (.inr (i,a,()))) (0,h,e,())).bind λ(o,k,_)=>some (.inl (aS c,o,k,())) else some (.inr (h,e,()))) (0,((0:Int),((0:Int),([],()))),(q.1,(r.1,(([]:fF),()))),())).bind λ(_,l,_)=>some (l,0,()))
def o5:(bF×aQ×Unit)->Option yt:=λ(a,g,_)=>(wM (a,g,())).bind λ(h,_)=>(bif h !=0 then some (((0:Int),((0:Int),(([]:fF),()))),h,()) else bif decide (a.1>64) then some (((0:Int),((0:Int),(([]:fF),()))),6,()) else(wI (a.1,a.1,())).bind λ(n,_)=>(loop (σ:=ys) (ρ:=p0) (λ(d,i,e,_)=>bif decide (d<a.1) then(loop (σ:=ys) (ρ:=p0) (λ(c,j,b,_)=>bif decide (c<a.1) then(wK (a,g,c,d,())).bind λ(m,_)=>(bx (b.2.2.1).length (au (au (d*a.1)+c))).bind λf=>((((bi b.2.2.1 f λ_=>some ((b.2.2.1).set f m)).map λp=>(p,b.2.2.2)).map λq=>(b.2.1,q)).map λr=>(b.1,r)).bind λs=>some (.inl (aS c,j,s,())) else some (.inr (j,b,()))) (0,i,e,())).bind λ(o,k,_)=>some (.inl (aS d,o,k,())) else some (.inr (i,e,()))) (0,((0:Int),((0:Int),([],()))),n,())).bind λ(_,l,_)=>
 some (l,0,()))
def rT:(bF×dY×Unit)->Option (bD×Int×Unit):=λ(j,c,_)=>(rR (c,())).bind λ(h,_)=>(bif h !=0 then some ((false,((false,([],())),((0:Int),()))),h,()) else(oU (j,c.1,())).bind λ(aL,i,_)=>bif i !=0 then some ((false,((false,([],())),((0:Int),()))),i,()) else(qd (c,())).bind λ(q,_,_)=>(yY (0,())).bind λ(r,_)=>(loop (σ:=(Int×bD×fM×fM×bD×Unit)) (ρ:=hH) (λ(a,f,b,e,d,_)=>bif decide (a<aq aL.2.2.1) then Option.bind (α:=(bD×fM×fM×bD×Unit)) ((ay b.2.2.1 a).bind λt=>(ay e.2.2.1 a).bind λu=>(y3 (t,u,())).bind λ(o,_)=>(yW (o,())).bind λ(g,_)=>(vO (g,d,())).bind λ(p,_,_)=>bif decide (p>0) then some (f,b,e,g,()) else some (f,b,e,d,())) λ(s,k,n,l,_)=>some (.inl (aS a,s,k,n,l,())) else some (.inr (f,d,()))) (0,(false,((false,([],())),((0:Int),()))),aL,q,r,())).bind λ(_,m,_)=>
 some (m,0,()))
def wH:hH->Option dR:=λ(a,b,_)=>(zU (a,b,())).bind λ(c,_,_)=>some (decide (c<0),())
def C4:p0->Option ee:=λ(d,f,_)=>(loop (σ:=(Int×bD×bD×Unit)) (ρ:=hH) (λ(a,c,b,_)=>bif decide (a<aq d.2.2.1) then Option.bind (α:=hH) ((ay d.2.2.1 a).bind λl=>(ay f.2.2.1 a).bind λm=>(zZ (l,m,())).bind λ(j,_)=>(wu (j,())).bind λ(e,_)=>(wH (b,e,())).bind λ(i,_)=>bif i then some (c,e,()) else some (c,b,())) λ(k,g,_)=>some (.inl (aS a,k,g,())) else some (.inr (c,b,()))) (0,(false,((false,([],())),((0:Int),()))),(false,((false,([],())),((0:Int),()))),())).bind λ(_,h,_)=>some (h,())
def r8:(bF×dY×Unit)->Option (bD×Int×Unit):=λ(d,a,_)=>(r7 (a,())).bind λ(b,_)=>(bif b !=0 then some ((false,((false,([],())),((0:Int),()))),b,()) else(o5 (d,a.1,())).bind λ(aL,c,_)=>bif c !=0 then some ((false,((false,([],())),((0:Int),()))),c,()) else(qr (a,())).bind λ(e,_,_)=>(C4 (aL,e,())).bind λ(f,_)=>some (f,0,()))
def wg:(he×he×Unit)->Option dR:=λ(a,b,_)=>(bif (a.1==b.1)==true then bif (a.2.1==b.2.1)==true then(zJ (a.2.2.1,b.2.2.1,())).bind λ(c,_)=>some (c,()) else some (false,()) else some (false,()))
def C2:h0->Option dR:=λ(b,c,_)=>(bif aq b !=aq c then some (false,()) else((loop (σ:=bb) (ρ:=hZ) (λ(a,_)=>bif decide (a<aq b) then(ay b a).bind λf=>(ay c a).bind λg=>bif f !=g then some (.inr (.inr (false,()))) else some (.inl (aS a,())) else some (.inr (.inl ()))) (0,())).bind λd=>match d with
 |.inl _=>(some (true,()))
 |.inr e=>some e))
def C0:iQ->Option dR:=λ(a,b,_)=>(bif (a.1==b.1)==true then(C2 (a.2.1,b.2.1,())).bind λ(c,_)=>some (c,()) else some (false,()))
def C1:hH->Option dR:=λ(a,b,_)=>(bif (a.1==b.1)==true then bif (a.2.2.1==b.2.2.1)==true then(C0 (a.2.1,b.2.1,())).bind λ(c,_)=>some (c,()) else some (false,()) else some (false,()))
def r5:hH->Option dR:=λ(a,b,_)=>(iU (a,())).bind λ(c,_)=>(iU (b,())).bind λ(aL,_)=>(C1 (c,aL,())).bind λ(d,_)=>some (d,())
def ql:p0->Option dR:=λ(a,b,_)=>Option.bind (α:=Unit⊕dR) (bif (a.1 !=b.1)==false then bif (a.2.1 !=b.2.1)==false then bif aq a.2.2.1 !=aq b.2.2.1 then some (.inr (false,())) else some (.inl ()) else some (.inr (false,())) else some (.inr (false,()))) λd=>match d with
 |.inl _=>((loop (σ:=bb) (ρ:=hZ) (λ(c,_)=>bif decide (c<aq a.2.2.1) then(ay a.2.2.1 c).bind λg=>(ay b.2.2.1 c).bind λh=>(r5 (g,h,())).bind λ(f,_)=>bif !f then some (.inr (.inr (false,()))) else some (.inl (aS c,())) else some (.inr (.inl ()))) (0,())).bind λd=>match d with
 |.inl _=>(some (true,()))
 |.inr e=>some e)
 |.inr e=>some e
def C3:(aQ×Int×Int×aQ×Unit)->Option dR:=λ(C,f,e,g,_)=>(zN (C,f,e,true,())).bind λ(c,d,_)=>(r9 (c,d,())).bind λ(a,_,_,_)=>(tY (g,c.1,c.1,e,())).bind λ(b,_)=>(rS (a,())).bind λ(h,i,_)=>(qq (a,())).bind λ(j,k,_)=>(qd (a,())).bind λ(l,m,_)=>(qr (a,())).bind λ(n,o,_)=>(oU (b,d,())).bind λ(p,q,_)=>(o5 (b,d,())).bind λ(r,s,_)=>(rT (b,a,())).bind λ(t,u,_)=>(r8 (b,a,())).bind λ(v,w,_)=>(bif (i==k)==true then(wg (h,j,())).bind λ(x,_)=>bif x==true then bif (m==o)==true then(ql (l,n,())).bind λ(y,_)=>bif y==true then bif (q==s)==true then(ql (p,r,())).bind λ(z,_)=>bif z==true then bif (u==w)==true then(r5 (t,v,())).bind λ(A,_)=>
 bif A==true then(zM ()).bind λ(B,_)=>some (B,()) else some (false,()) else some (false,()) else some (false,()) else some (false,()) else some (false,()) else some (false,()) else some (false,()) else some (false,()))
end Go.i9
section
namespace Go.Proofs
open Go.RowKit Go.Shelf Go.Sort
attribute [local go_sem] Oper.semAt_some
def Tryz.US:Go.Shelf.Ren:=⟨λ|20=>275|n=>n,λ|22=>23|3=>3|4=>4|0=>0|n=>n,λ|n=>n⟩
theorem Tryz.II:Lays2.n20 Tryz.prog Tryz.US where
 mixed:=by kernel_rfl
 f20:=Tryz.func275.trans (congrArg some (by kernel_rfl))
 t0:=Tryz.underlying0
 a0:=Tryz.isAgg0
 z0:=Tryz.sizeOf0
 v0:=Tryz.zeroValue0
 t3:=Tryz.underlying3
 a3:=Tryz.isAgg3
 z3:=Tryz.sizeOf3
 v3:=Tryz.zeroValue3
 t4:=Tryz.underlying4
 a4:=Tryz.isAgg4
 z4:=Tryz.sizeOf4
 v4:=Tryz.zeroValue4
 t22:=Tryz.underlying23
 a22:=Tryz.isAgg23
 z22:=Tryz.sizeOf23
 v22:=Tryz.zeroValue23
 i3:=by kernel_rfl
namespace Ga
def kV {a:Type} (b:Nat->a) (c:Nat):List a:=(List.range c).map b
theorem Mt {c:Type} (a:Nat->c) (b:Nat):kV a (b+1)=kV a b++[a b]:=by simp[kV,k3]
theorem aaR {c:Type} (b:Nat->c) (a:Nat):(kV b a).length=a:=by simp[kV]
theorem aaQ (a:cZ):kV (λc=>a[c]?.getD 0) a.length=a:=by
 apply List.ext_getElem
 ·simp[kV]
 intro e d b;simp[kV,b]
set_option maxRecDepth 100000 in
set_option maxHeartbeats 2000000 in
theorem aaZ (j:Fence) (m:Nat) (A:j.fn 290) (K:j.round=none) (T:1<=m) (v q n h k b x:Nat) (g:cZ) (V:b*8<=140737488351232) (F:h<n) (J r:cZ->World->Prop) (E:∀e o c,J e c->e.length<b->YieldAt j (m-1) Tryz.prog v #[.int .i64 o] c λi f=>
  (i=.returned (.bool true)/\J (e++[o]) f/\Below n c f)\/(i=.returned (.bool false)/\r (e++[o]) f))
 (c:World) (Q:c.cell? ⟨q,0,none⟩=some (.slice (some ⟨h,k,none⟩) b x)) (G:∀d,d<b->c.cell? ⟨h,k+d,none⟩=some (.int .i64 (g[d]?.getD 0))) (z:J [] c):
 CallsIn j m Tryz.prog 290 #[.func (.yield v) #[] #[],.pointer (some ⟨q,0,none⟩)] c λi f=>(∃L,i=.returned L)/\((∃w,w=kV (λd=>g[d]?.getD 0) b/\J w f)\/(∃e,(∃a,a<=b/\e=kV (λd=>g[d]?.getD 0) a)/\r e f)):=by
 refine callsIn_of_wp Tryz.func290 rfl A ?_ K;simp only[Tryz.ntmps290,pT,hU,oI,Nat.reduceAdd,Nat.reduceSub,ta,tb,tq,tj,fr,jd]
 gi_wp2
 gi_loopw [7] (λl wr=>∃a:Nat,a<=b/\l=.int .i64 a/\J (kV (λd=>g[d]?.getD 0) a) wr/\Below n c wr) (λl _=>b-(intOf l).toNat)
 case atStart=>exact⟨0,dQ _,rfl,z,Below.refl _ _⟩
 case round=>
  obtain⟨a,S,rfl,s,u⟩:=hrel;have H:a<b->wr.cell? ⟨h,k+a,none⟩=some (.int .i64 (g[a]?.getD 0)):=λy=>(u.cell (p:=⟨h,k+a,none⟩) F).trans (G a y);by_cases t:a<b
  ·obtain⟨P,X,N,O,W,D⟩:=E _ (g[a]?.getD 0) wr s (by rw[aaR];exact t);have R:=H t
   gi_wp2
   refine D.mono ?_;rintro i M (⟨rfl,B,I⟩|⟨rfl,C⟩)
   ·gi_wp2
    go_roundw
    case rel=>exact⟨a+1,U,ab,by rw[Mt];exact B,u.trans I⟩
    case measure=>simp[intOf];omega
   gi_wp2
   refine bodyPost_ret (results_none rfl _ _ _) rfl ?_;exact⟨⟨_,rfl⟩,.inr ⟨_,⟨a+1,U,(Mt _ _).symm⟩,C⟩⟩
  obtain rfl:a=b:=by omega
  gi_wp2
  go_end0
  exact⟨⟨_,rfl⟩,.inl ⟨_,rfl,s⟩⟩
theorem aaS (a:cZ) {b:Nat} (d:b<=a.length):kV (λf=>a[f]?.getD 0) b=a.take b:=by
 apply List.ext_getElem
 ·simp[kV,d]
 intro e c g;have:e<a.length:=(by simp[kV] at c;omega);simp[kV,this]
def nB (i:Nat) (g:World) (f:Value) (a:cZ):Prop:=
 (∃h c,f=.slice h 0 c/\a=[])\/∃b e c,f=.slice (some ⟨b,e,none⟩) a.length c/\b<i/\∀d,d<a.length->g.cell? ⟨b,e+d,none⟩=some (.int .i64 (a[d]?.getD 0))
theorem nB.below {b:Nat} {c d:World} (l:Below b c d) {i:Value} {j:cZ}:nB b c i j->nB b d i j
 |.inl a=>.inl a
 |.inr ⟨e,h,k,a,f,m⟩=>.inr ⟨e,h,k,a,f,λg n=>(l.cell (p:=⟨e,h+g,none⟩) f).trans (m g n)⟩
set_option maxRecDepth 100000 in
set_option maxHeartbeats 1000000 in
theorem aa0 (a:Fence) (n:Nat) (i:a.fn 290) (k:a.round=none) (m c:Nat) (e:Option Addr) (f:Nat) (J:cZ->World->Prop) (b:World) (p:b.cell? ⟨c,0,none⟩=some (.slice e 0 f)) (h:J [] b):CallsIn a n Tryz.prog 290 #[.func (.yield m) #[] #[],.pointer (some ⟨c,0,none⟩)] b λg d=>(∃o,g=.returned o)/\J [] d:=by
 refine callsIn_of_wp Tryz.func290 rfl i ?_ k;simp only[Tryz.ntmps290,pT,hU,oI,Nat.reduceAdd,Nat.reduceSub,ta,tb,tq,tj,fr,jd]
 gi_wp2
 gi_loopw [7] (λl wr=>l=.int .i64 0/\J [] wr) (λ_ _=>0)
 case atStart=>exact⟨rfl,h⟩
 case round=>
  obtain⟨rfl,j⟩:=hrel
  gi_wp2
  go_end0
  exact⟨⟨_,rfl⟩,j⟩
set_option maxHeartbeats 1000000 in
theorem aa1 (a:Fence) (i:Nat) (g:a.fn 277) (h:a.round=none) (c:Option Addr) (e d:Nat) (b:World):CallsIn a i Tryz.prog 277 #[.slice c e d] b λf j=>f=.returned (.func (.func 290) #[] #[.pointer (some ⟨b.heap.size,0,none⟩)])/\j=b.alloc (.cells #[.slice c e d] 23):=by
 refine callsIn_of_wp Tryz.func277 rfl g ?_ h;simp only[Tryz.ntmps277,pT,hU,oI,Nat.reduceAdd,Nat.reduceSub,ta,tb,tq,tj,fr,jd]
 gi_wp2
 go_ret
 exact⟨rfl,rfl⟩
theorem aa2 (c:Fence) (g:Nat) (l:c.fn 290) (o:c.round=none) (G:1<=g) (b h:Nat) (s:Value) (a:cZ) (I:a.length*8<=140737488351232) (e:World) (z:b<e.heap.size) (H:h<=e.heap.size) (D:e.cell? ⟨b,0,none⟩=some s) (A:nB h e s a):SeqStopsK c g Tryz.prog 290 #[.pointer (some ⟨b,0,none⟩)] (λL:Int=>#[Value.int .i64 L]) (Below h) (λt=>t=a) (λr=>r<+:a) a.length e:=λq J u j m _ _ B k=>by
 have n:=(m.cell (p:=⟨b,0,none⟩) z).trans D;rcases A.below (m.mono H) with⟨w,i,rfl,rfl⟩|⟨x,K,i,rfl,C,E⟩
 ·exact(aa0 c g l o q b w i J j n k).mono λy v ⟨f,d⟩=>⟨f,.inl ⟨_,rfl,d⟩⟩
 refine(aaZ c g l o G q b h x K a.length i a I C J u B j n E k).mono ?_;rintro y v ⟨f,⟨t,rfl,d⟩|⟨r,⟨M,F,rfl⟩,d⟩⟩
 ·exact⟨f,.inl ⟨_,aaQ a,d⟩⟩
 exact⟨f,.inr ⟨_,by rw[aaS a F];exact List.take_prefix _ _,d⟩⟩
theorem Uq:(Tryz.prog.info? 3).map (λa=>(a.zero,a.size,a.bytes))=some (some (.int .i64 0),1,8):=by kernel_rfl
set_option maxRecDepth 100000 in
set_option maxHeartbeats 2000000 in
theorem RK (g:Fence) (m:Nat) (E:g.fn 299) (u:g.fn 290) (q:g.round=none) (av:3<=m) (e:Nat) (r:Value) (f:cZ) (M:f.length*8<=140737488351232) (a:World) (F:e<a.heap.size) (o:a.cell? ⟨e,0,none⟩=some r) (H:nB a.heap.size a r f):CallsIn g m Tryz.prog 299 #[.slice none 0 0,.func (.func 290) #[] #[.pointer (some ⟨e,0,none⟩)]] a λB t=>∃b,B=.returned b/\t.ownsRow a.heap.size 3 1 b f.length (f.map (Value.int .i64))/\(b=.slice none 0 0↔f=[])/\Below a.heap.size a t:=by
 have D:1<=m:=U;obtain⟨S,J,P,Q,R⟩:=info_parts Uq;refine callsIn_of_wp_marks Tryz.func299 rfl E ?_ q;simp only[Tryz.ntmps299,pT,hU,oI,Nat.reduceAdd,Nat.reduceSub,ta,tb,tq,tj,fr,jd]
 gi_wp2
 have A:=Boxed.new a 23 (.slice none 0 0);have n:Below a.heap.size a (a.alloc (.cells #[.slice none 0 0] 23)):=(Below.refl _ a).alloc (a8 _) _;refine wpIn_rangeFunc_ownG q D (gf:=290) (lb:=#[.pointer (some ⟨e,0,none⟩)]) rfl u (enters_of Tryz.func290 (by kernel_rfl) rfl) (aa2 g (m-1) u q U e a.heap.size r f M _ (by simp;omega) ab ((n.cell (p:=⟨e,0,none⟩) F).trans o) (H.below n)) belowK_t (belowK_b ab) (Below.refl _ _) (λ_=>rfl) (λc d=>(∃b,Boxed d a.heap.size 23 b/\d.ownsRow a.heap.size 3 1 b c.length (c.map (Value.int .i64))/\(b=.slice none 0 0↔c=[]))/\Below a.heap.size a d) (λ_ _ _=>False) (OwnFrom.and (Own.from (holdsRow_own a.heap.size a.heap.size 23 3 1 (λc=>c.length) (λc=>c.map (Value.int .i64)) (λc b=>b=.slice none 0 0↔c=[])) _) (ownFrom_below (a8 _) ab)) (λ_ _ _ _ _ N _ _=>N) ⟨⟨_,A,World.ownsRow_nil _ _ _ _,ab⟩,n⟩ (λj=>{tmps:=#[.slice none 0 0,.func (.func 290) #[] #[.pointer (some ⟨e,0,none⟩)],.pointer (some ⟨a.heap.size,0,none⟩),undef,.slice none 0 0,.int .i64 j,.func (.func 290) #[] #[.pointer (some ⟨e,0,none⟩)],.int .i64 j,undef,undef,undef,undef,undef],defers:=[]}) ?assign ?body ?done ?stop
 case assign=>
  intro T j d V i
  gi_wp2
  exact i
 case body=>
  rintro T c j d ⟨⟨b,l,k,x⟩,h⟩ ap;have o:=l.cell;have an:f.length<=maxLen:=(by simp only[maxLen];omega);have Z:f.length*8<=140737488355328:=by omega
  gi_wp2_with (gi_at_builtin;refine wpListIn_append_own _ rfl _ _ 23 rfl a.heap.size 3 S (.int .i64 0) 1 8 Tryz.underlying23 J P Q R rfl aa _ _ _ rfl (k.alloc _) ⟨d.heap.size,0,none⟩ 1 1 [.int .i64 j] rfl rfl (cell_one_new _ _ _) (by simp[Value.oneCell']) U U (by have:=h.size;simp;omega) ?_;intro a0 a3 y I _;obtain⟨Y,X,rfl⟩:=ownsRow_succ y;obtain⟨z,O,L,K,v⟩:=l.appended aa k h.size (a8 _) y I;have ad:=z.cell;have am:=z.frozen)
  exact⟨K.from _,v,⟨_,O,by simpa using L,ab⟩,h.trans v⟩
 case done=>
  rintro s a4 d G rfl ⟨⟨b,l,k,x⟩,h⟩ i;have o:=l.cell
  gi_wp2
  refine⟨ab,.inl ⟨_,_,rfl,run_takeDeferred i,?_⟩⟩;exact⟨_,results_tmp rfl _ _ _,b,rfl,ownsRow_putObj k _ i rfl,x,h.trans (belowK_b (w:=a) (a8 _) d s _ _ (by simp at G;omega) i rfl rfl)⟩
 case stop=>
  rintro s W c d _ _ C _;exact C.elim
set_option maxHeartbeats 1000000 in
theorem Sw (b:Fence) (f:Nat) (m:b.fn 288) (k:b.fn 299) (l:b.fn 290) (j:b.round=none) (v:4<=f) (e:Nat) (g:Value) (c:cZ) (s:c.length*8<=140737488351232) (a:World) (n:e<a.heap.size) (q:a.cell? ⟨e,0,none⟩=some g) (o:nB a.heap.size a g c):CallsIn b f Tryz.prog 288 #[.func (.func 290) #[] #[.pointer (some ⟨e,0,none⟩)]] a λi h=>∃d,i=.returned d/\h.ownsRow a.heap.size 3 1 d c.length (c.map (Value.int .i64))/\(d=.slice none 0 0↔c=[])/\Below a.heap.size a h:=by
 have u:1<=f:=U;refine callsIn_of_wp Tryz.func288 rfl m ?_ j;simp only[Tryz.ntmps288,pT,hU,oI,Nat.reduceAdd,Nat.reduceSub,ta,tb,tq,tj,fr,jd]
 gi_wp2_with (gi_at_call 299;refine(RK b (f-1) k l j U e g c s _ n q o).mono ?_;rintro i w ⟨d,rfl,t,r,p⟩)
 go_ret
 exact⟨d,rfl,t,r,p⟩
open Go.i9
theorem Zg {M:c5->Nat->Prop} {f:World} {k:Nat} {j:Value} {b:cZ} (s:f.ownsRow k 3 1 j b.length (b.map (Value.int .i64))):∃d,aN M f (.osl (.int .i64)) [j] b d/\d.Nodup/\∀h∈d,k<=h/\h<f.heap.size:=by
 rcases s.2 with⟨rfl,t⟩|⟨e,l,i,rfl,w,q,u,A,v,m⟩
 ·obtain rfl:=lv t;exact⟨[],⟨none,0,rfl,.inl ⟨rfl,rfl,rfl,rfl⟩⟩,ab,ab⟩
 rw[Nat.mul_one] at v m;have o:∀a,a<l->f.cell? ⟨e,a,none⟩=some (i[a]?.getD undef)/\f.frozen? ⟨e,a,none⟩=false:=λa c=>(by constructor<;>simp[World.cell?,World.frozen?,q,(U:a<i.size)]);refine⟨[e],⟨some ⟨e,0,none⟩,l,rfl,.inr ⟨e,0,List.replicate b.length [],rfl,ab,ab,u,λa _ c=>?_,λg z d r p=>?_⟩⟩,ab,λh n=>?_⟩
 ·obtain⟨ar,y⟩:=o a (by simpa[ag.size] using c);exact⟨by rw[ar];rfl,y⟩
 ·have x:g<b.length:=(eb.1 r).1;obtain rfl:d=[]:=by
   rw[ly] at p;split at p<;>simp_all
  refine⟨[.int .i64 z],rfl,λa j c=>?_,rfl,rfl⟩;cases a with
  |succ a=>simp at c
  |zero=>
   simp only[iL,bI] at c;subst c;simp only[ag.size,Nat.mul_one,hX,k4];rw[(o g U).1];have:(i.toList.take b.length)[g]?=(b.map (Value.int .i64))[g]?:=(by rw[m]);rw[k1 x,s9,eS,r] at this;rw[this];rfl
 simp only[dP] at n;subst n;exact⟨w,(lW.1 q).1⟩
theorem Uj {o:c5->Nat->Prop} {n:World} {i:Value} {a:cZ} {k:cY} (g:aN o n (.osl (.int .i64)) [i] a k):(∃j b,i=.slice j 0 b/\a=[])\/∃c e b,i=.slice (some ⟨c,e,none⟩) a.length b/\a.length<=b/\Holds (Value.int .i64) n c e a.toArray/\k=[c]:=by
 obtain⟨j,b,m,g⟩:=g;simp only[fK,and_true] at m;subst m;rcases g with⟨rfl,rfl,rfl,rfl⟩|⟨c,e,f,rfl,rfl,A,s,t,l⟩
 ·exact .inl ⟨none,0,rfl,rfl⟩
 right;have u:f.flatten=[]:=by
  rw[List.flatten_eq_nil_iff];intro C x;obtain⟨h,B,rfl⟩:=ha.1 x;obtain⟨r,_,_,y⟩:=l h (a[h]'(by omega)) f[h] ab ab
  exact y.1
 refine⟨c,e,b,rfl,s,λd v=>?_,by rw[u]⟩;have w:d<a.length:=(by simpa using v);obtain⟨r,z,p,_,q⟩:=l d a[d] (f[d]'(by omega)) ab ab
 subst q;have ar:=p 0 _ rfl;simp only[ag.size,Nat.mul_one,k4] at ar;exact⟨by rw[ar];simp[w],(t (e+d) U (by simp only[ag.size];omega)).2⟩
def Cl (E:dW) (c:cZ->cK):Prop:=∀b a,c b=some a->pI E 289 [.m ⟨.osl (.int .i64),b⟩ a] []
set_option maxRecDepth 100000 in
set_option maxHeartbeats 2000000 in
theorem Z2 (i:Fence) (h:∀e,i.fn e) (z:i.round=none) (O:∀(ad:Nat) (e:FuncId) (v:cQ) (c:World) (t:Ending->World->Prop),Calls Tryz.prog e v c t->CallsIn i ad Tryz.prog e v c t) {E:dW} (I:E.P=Tryz.prog) {C:cZ->cK} (Y:Cl E C) (k:Nat) (a0:5<=k) (m:Nat) (r:Value) (l s:cZ) (Z:C l=some s) (W:l.length*8<=140737488351232) (c:World) (J:jC E (λb=>b<c.heap.size) c) (H:m<c.heap.size) (N:c.cell? ⟨m,0,none⟩=some r) (K:nB c.heap.size c r l):CallsIn i k Tryz.prog 276 #[.func (.func 290) #[] #[.pointer (some ⟨m,0,none⟩)]] c λp u=>∃g e D,p=.returned g/\aN D u (.osl (.int .i64)) [g] s e/\(∀b∈e,c.heap.size<=b)/\Below c.heap.size c u:=by
 have av:1<=k:=U;have a3:=h 288;have a4:=h 289;refine callsIn_of_wp Tryz.func276 rfl (h _) ?_ z;simp only[Tryz.ntmps276,pT,hU,oI,Nat.reduceAdd,Nat.reduceSub,ta,tb,tq,tj,fr,jd]
 gi_wp2_with (first
  |(
   gi_at_call 288;refine(Sw i (k-1) (h _) (h _) (h _) z U m r l W _ H N K).mono ?_;rintro p F ⟨g,rfl,A,T,d⟩
   obtain⟨e,V,S,o⟩:=Zg (M:=ba (λ_=>False) (λ_=>False)) A;have n:=Y l s Z F (λb=>b<c.heap.size) (λ_=>False) [g] [e] (λb a=>by rcases a with a|a;exact gO a d.size;exact a.elim) ⟨⟨[g],rfl,V⟩,trivial⟩ (by simpa using S) (λb d=>⟨Nat.not_lt.2 (o b (by simpa using d)).1,λa=>a,(o b (by simpa using d)).2⟩) True.intro (J.mono (λ_ a=>a) λb a=>d.block b a);rw[I] at n;have n:=O (k-1) _ _ _ _ n;clear A T)
  |(gi_at_call 289;refine n.mono ?_;rintro p an ⟨am,w,bl,B,rfl,f⟩))
 have Q:∃j,w=[j]:=by
  have:=f.args
  match w,this with
  |[j],_=>exact⟨j,rfl⟩
  |[],a=>exact a.elim
  |_::_::_,a=>exact a.2.elim
 obtain⟨j,rfl⟩:=Q;obtain⟨ap,aj,y⟩:=f.args.1;have R:=y.len;obtain⟨G,rfl⟩:=tn.1 R;have aj:g=G:=aj;subst aj;have X:B=[]:=by
  have:=f.res
  match B,this with
  |[],_=>rfl
  |_::_,a=>exact a.elim
 subst X
 go_ret
 refine⟨g,j,_,rfl,y,λb L=>?_,?_⟩
 ·have:=(f.GW b (by simp[L])).2.2.2;rcases this with a|a
  ·exact da d.size a
  exact(o b (by simpa using a)).1
 exact⟨f.os.trans d.os,f.tape.trans d.tape,f.output.trans d.output,da d.size f.size,λq x=>(f.heap q (gO x d.size) (λa=>by have:=(o q (by simpa using a)).1;omega)).trans (d.block q x)⟩
theorem SB {j:c5->Nat->Prop} {b:World} {B:Nat} {i:Value} {e:cZ} {h:cY} (n:aN j b (.osl (.int .i64)) [i] e h) (m:∀c∈h,B<=c) (r:e.length<=1000000):Calls Tryz.prog 275 #[i] b (λf g=>∃d a,f=.returned (.slice d (Lib.compact e).length a)/\Below B b g):=by
 rcases Uj n with⟨d,a,rfl,rfl⟩|⟨c,p,a,rfl,l,k,rfl⟩
 ·refine(Any.slices_Compact_int_empty Tryz.II d a b).mono ?_;rintro f g ⟨rfl,rfl⟩;exact⟨d,a,rfl,Below.refl _ _⟩
 refine(Any.slices_Compact_int Tryz.II c p a e b k U l).mono ?_;rintro f g ⟨rfl,s,rfl⟩;refine⟨_,a,rfl,rfl,rfl,rfl,by simp[putRow,mapBlock,Sort.ahead],λo q=>?_⟩;have:=m c ab;simp[putRow,mapBlock,Sort.ahead,pH,(U:c≠o)]
set_option maxRecDepth 100000 in
set_option maxHeartbeats 2000000 in
theorem aaF (g:Fence) (i:∀k,g.fn k) (p:g.round=none) (t:∀(S:Nat) (k:FuncId) (r:cQ) (a:World) (q:Ending->World->Prop),Calls Tryz.prog k r a q->CallsIn g S Tryz.prog k r a q) {E:dW} (F:E.P=Tryz.prog) {x:cZ->cK} (O:Cl E x) (j:Nat) (am:7<=j) (c:Option Addr) (b e:Nat) (f m:cZ) (R:x f=some m) (N:f.length=b) (a0:f.length<=1000000) (Q:m.length<=1000000) (a:World) (G:jC E (λd=>d<a.heap.size) a) (H:nB a.heap.size a (.slice c b e) f):CallsIn g j Tryz.prog 249 #[.slice c b e] a λh z=>h=.returned (.bool (decide ((Lib.compact m).length<f.length)))/\Below a.heap.size a z:=by
 have ad:1<=j:=U;have an:=i 277;have ap:=i 276;have av:=i 275;generalize M:(Lib.compact m).length=Z;refine callsIn_of_wp Tryz.func249 rfl (i _) ?_ p;simp only[Tryz.ntmps249,pT,hU,oI,Nat.reduceAdd,Nat.reduceSub,ta,tb,tq,tj,fr,jd];have C:=Boxed.new a 23 (.slice c b e);have n:Below a.heap.size a (a.alloc (.cells #[.slice c b e] 23)):=(Below.refl _ a).alloc (a8 _) _;have I:nB (a.alloc (.cells #[.slice c b e] 23)).heap.size (a.alloc (.cells #[.slice c b e] 23)) (.slice c b e) f:=by
  rcases H.below n with l|⟨d,T,D,h,o,L⟩
  ·exact .inl l
  exact .inr ⟨d,T,D,h,by simp;omega,L⟩
 have w:=Z2 g i p t F O (j-1) U a.heap.size (.slice c b e) f m R U _ (G.mono (λd (l:d<a.heap.size)=>gO l n.size) λd l=>n.block d l) ab C.cell I
 gi_wp2_with (first
  |(gi_at_call 277;refine(aa1 g (j-1) (i _) p c b e a).mono ?_;rintro h a4 ⟨rfl,rfl⟩)
  |(gi_at_call 276;refine w.mono ?_;rintro h y ⟨a3,k,V,rfl,v,u,o⟩;have s:=t (j-1) _ _ _ _ (SB (B:=a.heap.size) v (λd J=>by have:=u d J;simp at this;omega) Q);rw[M] at s;have A:Below a.heap.size a y:=n.trans (o.mono ab);clear v u o w)
  |(gi_at_call 275;refine s.mono ?_;rintro h W ⟨X,Y,rfl,K⟩))
 go_ret
 exact⟨by rw[N];rfl,A.trans K⟩
def aaC (c:cZ->cK):aB:=⟨249,[.v (.a7 .dN (.int .i64))],[.bool],λa=>(x3 c a.1).map λb=>(b,())⟩
theorem aaD {E:dW} (q:E.P=Tryz.prog) {sort:cZ->cK} (K:Cl E sort):aA E (aaC sort):=by
 refine⟨λg f=>by rw[q];exact Tryz.call249 g f,?_⟩;rintro⟨d,_⟩ b c;have w:(x3 sort d).map (λb=>(b,()))=some b:=c;obtain⟨B,e,rfl⟩:=dZ.1 w;clear c w;unfold x3 at e;cases l:Nat.ble d.length 1000000 with
 |false=>rw[l] at e;cases e
 |true=>
 rw[l] at e;obtain⟨s,M,e⟩:=bZ.1 e;cases m:Nat.ble s.length 1000000 with
 |false=>rw[m] at e;cases e
 |true=>
 rw[m] at e;have c:decide ((Lib.compact s).length<d.length)=B:=ec e;subst c;have l:=eM l;have m:=eM m;rintro f t A g k u h Z Y _hself;have h:kI (ve t A f) [.v ⟨.a7 .dN (.int .i64),d⟩] g k:=h;obtain⟨p,j,rfl,rfl⟩:∃p j,g=[p]/\k=[j]:=by
  cases g with
  |nil=>exact h.elim
  |cons p g=>
   cases k with
   |nil=>exact h.elim
   |cons j k=>
    have a:=h.2;cases g with
    |nil=>cases k with
     |nil=>exact⟨p,j,rfl,rfl⟩
     |cons=>exact a.elim
    |cons=>exact a.elim
 obtain⟨⟨rfl,S,rfl,J⟩,_⟩:=h;obtain⟨_,o,i,rfl,X,ad,I⟩:=J;have G:nB f.heap.size f (.slice o d.length i) d:=by
  rcases I with a|⟨b,O,rfl,H,L⟩
  ·exact .inl ⟨o,i,by rw[show d=[] from a];rfl,a⟩
  refine .inr ⟨b,O,i,rfl,u b H,λy x=>?_⟩;obtain⟨V,T,C,_,D⟩:=L y d[y] (by simp[x]);subst D;have z:=C 0 _ rfl;simp only[ag.size,Nat.mul_one,k4] at z;rw[z];simp[x]
 intro F;have a:=aaF Fence.wide (λ_=>trivial) rfl (λN j R f Q a=>(callsIn_wide (n:=N)).2 a) q K 10 U o d.length i d s M rfl l m f (F.mono (λb a=>u b (.inl a)) λ_ _=>rfl) G;have a:=callsIn_wide.1 a;show Calls E.P 249 #[.slice o d.length i] f _;rw[q];refine a.mono ?_;rintro W am ⟨rfl,c⟩;refine⟨t,[[]],[[]],[.bool _],rfl,⟨⟨rfl,trivial⟩,⟨⟨[.bool _],rfl,rfl,rfl⟩,trivial⟩,ab,ab,λ_ a=>a,λ_ a=>.inl a,c.size,c.os,c.tape,c.output,λb r=>.of_heap (c.block b r),λb r _=>c.block b r⟩⟩
end Ga
end Go.Proofs
end
namespace Go.i9
variable{a:Nat}{b:Value}{c:Type}{d:World}{e:List ResultVar}{f:c5->Nat->Prop}{g:List fC}{h:List ag}{i:Int}{j:Nat->Prop}
section
open Go.Proofs
open Tryz
abbrev ed:ag:=(.int .u32)
abbrev b0:ag:=(.a7 .bA ed)
abbrev aZ:ag:=(.st (.pr .bool (.pr b0 .nil)))
abbrev aK:ag:=(.int .i64)
abbrev a5:ag:=(.st (.pr .bool (.pr aZ (.pr aK .nil))))
abbrev c8:ag:=(.osl aK)
abbrev bn:ag:=(.int .u64)
abbrev Gb:ag:=(.pr c8 (.pr c8 (.pr (.osl bn) .nil)))
abbrev eC:ag:=(.a7 .dN aK)
abbrev kj:ag:=(.a7 .dN bn)
abbrev Gc:ag:=(.pr eC (.pr eC (.pr kj .nil)))
abbrev fU:ag:=(.a7 .bA aK)
abbrev Gd:ag:=(.pr fU (.pr fU (.pr (.a7 .bA bn) .nil)))
abbrev hd:ag:=(.osl a5)
abbrev hG:ag:=(.st (.pr aK (.pr aK (.pr hd .nil))))
abbrev lD:ag:=(.osl (.osl bn))
abbrev mT:ag:=(.optr (.st (.pr (.a7 .bA fU) (.pr lD (.pr (.osl (.mp a5)) (.pr (.osl c8) .nil))))))
abbrev kh:ag:=(.st (.pr aK (.pr aK (.pr (.a7 .bA a5) .nil))))
abbrev ki:ag:=(.st (.pr aK (.pr aK (.pr bn .nil))))
abbrev mR:ag:=(.st (.pr aK (.pr aK (.pr (.osl bn) .nil))))
abbrev jh:ag:=(.st (.pr aK (.pr aK Gb)))
abbrev dD:ag:=(.optr jh)
abbrev fi:ag:=(.st (.pr (.a7 .bA fU) .nil))
abbrev jJ:ag:=(.st (.pr (.a7 .dN eC) .nil))
abbrev gy:ag:=(.st (.pr aK (.pr aK Gc)))
abbrev tv:ag:=(.st (.pr fU Gd))
abbrev fE:ag:=(.osl .bool)
abbrev fS:ag:=(.osl fE)
abbrev jK:ag:=(.st (.pr aK (.pr aK Gd)))
abbrev pY:ag:=(.st (.pr aK (.pr aK (.pr (.a7 .dN a5) .nil))))
abbrev hY:ag:=(.st (.pr (.osl fU) .nil))
abbrev br:ag:=(.osl ed)
abbrev k5:ag:=(.st (.pr .bool (.pr aZ (.pr aK (.pr .bool .nil)))))
abbrev e4:ag:=(.optr hG)
abbrev l9:ag:=(.st (.pr c8 Gb))
abbrev hu:ag:=(.optr l9)
abbrev dq:ag:=(.optr a5)
abbrev nP:ag:=(.st (.pr aK (.pr aK (.pr (.a7 .bA bn) .nil))))
abbrev eD:ag:=(.ptr .bA aZ)
abbrev dd:ag:=(.optr aZ)
abbrev l7:ag:=(.st (.pr eC Gc))
abbrev l8:ag:=(.optr (.st (.pr c8 (.pr c8 .nil))))
abbrev rE:ag:=(.optr (.st (.pr aK (.pr fi (.pr (.osl (.mp a5)) .nil)))))
abbrev ig:ag:=(.ptr .bA gy)
abbrev eE:ag:=(.osl ki)
abbrev hx:ag:=(.ptr .bA a5)
abbrev yq:ag:=(.ptr .dN (.st (.pr aK (.pr jJ (.pr (.a7 .dN (.dC .dN a5)) .nil)))))
abbrev pZ:ag:=(.optr (.st (.pr fS (.pr fE .nil))))
abbrev yr:ag:=(.st (.pr aK (.pr aK (.pr kj .nil))))
abbrev ji:ag:=(.ptr .bA jJ)
abbrev Ge:ag:=(.optr tv)
abbrev kk:ag:=(.optr mR)
abbrev mS:ag:=(.ptr .bA l7)
def tt:List (Nat×ag):=[(3,aK),(4,.bool),(5,(.int .u8)),(9,.str),(22,(.a7 .bA bn)),(23,fU),(25,(.a7 .bA bn)),(27,jK),(31,tv),(39,(.a7 .bA fU)),(41,fi),(50,bn),(51,bn),(55,b0),(57,aZ),(59,a5),(62,(.a7 .bA a5)),(71,nP),(75,kh),(84,(.a7 .bA (.st (.pr aK (.pr aK (.pr fU (.pr aK .nil))))))),(90,(.st (.pr aK (.pr aK (.pr fU (.pr aK .nil)))))),(102,(.a7 .bA (.dC .bA a5))),(104,(.st (.pr aK (.pr fi (.pr (.a7 .bA (.dC .bA a5)) .nil))))),(109,(.a7 .bA (.a7 .bA bn))),(117,(.a7 .bA ki)),(120,ki),(122,(.a7 .bA (.a7 .bA .bool))),(124,(.a7 .bA .bool)),(132,bn),(139,ed),(149,(.a7 .bA (.a7 .bA a5))),(155,(.a7 .bA (.a7 .bA (.st (.pr aK (.pr aK (.pr fU (.pr aK .nil)))))))),(156,(.a7 .bA (.a7 .bA kh))),(158,(.a7 .bA kh)),(166,(.dC .bA a5)),(168,(.st (.pr (.a7 .bA fU) (.pr (.a7 .bA (.a7 .bA bn)) (.pr (.a7 .bA (.dC .bA a5)) (.pr (.a7 .bA fU) .nil)))))),(175,(.st (.pr (.a7 .bA (.a7 .bA .bool)) (.pr (.a7 .bA .bool) .nil)))),(206,(.st (.pr kh (.pr nP (.pr (.a7 .bA a5) .nil))))),(212,(.a7 .bA (.a7 .bA .bool))),(223,k5),(254,(.st (.pr fU (.pr fU .nil)))),(306,bn)]
theorem Mj:∀a b,ao tt a=some b->dF Tryz.prog b a:=Mk (by kernel_rfl)
def E:dW:={P:=Tryz.prog,tt:=tt,ok:=Mj,mix:=by kernel_rfl,glob:=[⟨0,266,.u8,nW⟩],gok:=T6 Mj (S:=5) (by kernel_rfl) (by kernel_rfl)}
def NT:aB:=⟨155,[.v b0],[br],kJ⟩
theorem sM:aA E NT:=
 .q aH (.k [0] (.n (.n (.t .none (.o (.p ⟨[aT 3],[]⟩ (.x 0 ⟨[aT 3],[]⟩) (.t (.bk [3] ⟨[],[]⟩) .l .l))) (.n (.t .none (.n (.o (.k [3] (.p ⟨[ah 4,aT 5],[(4,br)]⟩ (.x 2 ⟨[ah 4],[(4,br)]⟩) .l)))) .l)))))) func155 call155 [(4,br)]
def NR:aB:=⟨153,[.v .bool,.v b0],[aZ],kn⟩
theorem q2:aA E NR:=
 .q (ak sM aH) (.k [0] .l) func153 call153 [(4,aZ),(1,b0)] [(1,6)]
def N1:aB:=⟨162,[.v aK],[aZ],o0⟩
theorem xx:aA E N1:=
 .q (ak q2 aH) (.k [0] (.n (.n (.t (.x [] ⟨[ah 2,(3,.v bn)],[(2,dd)]⟩) .l .l)))) func162 call162 [(2,aZ)] [(21,20)]
def NN:aB:=⟨149,[.v aZ],[aZ],nZ⟩
theorem xv:aA E NN:=
 .q (ak q2 aH) (.k [0] .l) func149 call149 [(1,eD),(2,aZ)]
def QS:aB:=⟨87,[],[a5],qm⟩
theorem uS:aA E QS:=
 .q aH .l func87 call87 [(0,a5)]
def sv (a:Int):fq:=⟨E.tt,[],[],14,[0]++(ix 0 [.v ed]++mF (ip 0 [.v ed])),[(0,.val ed a)]++[],[],ip 0 [.v ed],[],[],E.glob⟩
noncomputable def qI:Code:=Tryz.f222.body.getD .skip
def sw:Array Oper:=(sU 3 qI).getD #[]
def DT:kX:=.two .none (.leaf) (.two .none (.two .none (.leaf) (.leaf)) (.leaf))
def AX:kX:=.keep [0] (.two .none (.leaf) (.two .none DT (.two .none (.leaf) (.leaf))))
def uz (a:Int):aJ:=⟨[(4,.val .bool (a==0)),(3,.val ed a),(2,.val aK 0),(0,.val ed a)],[]⟩
def DS (a:Int):Exit->aJ->Option (hn [.v ed] (ks [.int .i64])):=HT E.tt [.v ed] [.tmp 2] [.int .i64] (a,())
theorem UM:qI=.seq (BI qI) (.seq (BI (LP qI)) (.seq (.region 3 sw false) .ret)):=by kernel_rfl
theorem UP:sw.size=10:=by kernel_rfl
theorem UN (a:Int) (b:Exit->aJ->Option c) (d:aJ->Option c):gC (sv a) .leaf (BI qI) ⟨[(0,.val ed a)],[]⟩ c (xU (λe=>gC (sv a) DT (BI (LP qI)) e c (xU d b)) b)=bif a==0 then b .ret ⟨(2,.val aK 32)::(uz a).g,[]⟩ else d (uz a):=by kernel_rfl
theorem UJ (a:Int) (b:aJ->Option c):jr (sv a) sw [0,1,2,3,4] (uz a) b=b ⟨(9,.val ed (IntKind.u32.wrap (dr IntKind.u32 a (IntKind.u32.wrap (0-a))*125613361)))::(8,.val ed (dr IntKind.u32 a (IntKind.u32.wrap (0-a))))::(7,.val ed (IntKind.u32.wrap (0-a)))::(6,.val ed a)::(5,.val ed a)::(uz a).g,[]⟩:=by kernel_rfl
theorem UK (a c d b:Int):jr (sv a) sw [5,6,7,8,9] ⟨(9,.val ed b)::(8,.val ed c)::(7,.val ed d)::(6,.val ed a)::(5,.val ed a)::(uz a).g,[]⟩ (DS a .ret)=(dk IntKind.u32 b 27).bind λe=>(ay nW e).bind λf=>some (IntKind.i64.wrap f,()):=by kernel_rfl
theorem UQ (a:Int):DS a .ret ⟨(2,.val aK 32)::(uz a).g,[]⟩=some ((32:Int),()):=by kernel_rfl
theorem UO (a:Int) (d:fI [.v ed]) (f g:Code) (b:Exit->aJ->Option c) (h:d=(a,())):gC ⟨E.tt,[],[],14,ix 0 [.v ed]++mF (ip 0 [.v ed]),[],[],ip 0 [.v ed],[],[],E.glob⟩ AX (.seq f (.seq g (.seq (.region 3 sw false) .ret))) ⟨lF 0 [.v ed] d,lG 0 [.v ed] d⟩ c b=gC (sv a) .leaf f ⟨[(0,.val ed a)],[]⟩ c (xU (λe=>gC (sv a) DT g e c (xU (λe=>jr (sv a) sw (List.range sw.size) e (b .ret)) b)) b):=by subst h;rfl
theorem UL (b:fI [.v ed]):AS ⟨E.tt,[],[],14,ix 0 [.v ed]++mF (ip 0 [.v ed]),[],[],ip 0 [.v ed],[],[],E.glob⟩ AX qI [.v ed] [.tmp 2] [.int .i64] b=tW b:=by obtain⟨a,⟨⟩⟩:=b;show gC _ AX qI _ _ (DS a)=_;rw[UM,UO a _ _ _ _ rfl,UN,UP,show List.range 10=[0,1,2,3,4]++[5,6,7,8,9] from rfl,DG,UJ,UK,UQ];exact Eq.refl (bif a==(0:Int) then some ((32:Int),()) else(dk IntKind.u32 (IntKind.u32.wrap (dr IntKind.u32 a (IntKind.u32.wrap (0-a))*125613361)) 27).bind λc=>(ay nW c).bind λd=>some (IntKind.i64.wrap d,()))
def OV:aB:=⟨222,[.v ed],[aK],tW⟩
theorem J2:aA E OV:=
 aA.of (fn:=Tryz.f222) (rs:=[.tmp 2]) [] [] [] AX func222 (by kernel_rfl) (by kernel_rfl) (by kernel_rfl) call222 Ma (by intro a;exact UL a)
def NO:aB:=⟨150,[.v aZ],[aK],o1⟩
theorem JM:aA E NO:=
 .q (ak J2 (ak sM aH)) (.k [0] (.n (.n (.t .none (.n (.o (.k [3] (.p ⟨[aT 4],[]⟩ (.bk 0 ⟨[],[]⟩) .l)))) .l)))) func150 call150 [(1,eD),(3,b0)] [(3,7)]
def Q1:aB:=⟨96,[.v aZ],[aZ],oY⟩
theorem xD:aA E Q1:=
 .q (ak q2 aH) (.k [0] .l) func96 call96 [(1,eD),(2,aZ)]
def NX:aB:=⟨159,[.v b0,.v aK],[br],ub⟩
theorem JP:aA E NX:=
 .q aH (.k [0,1] (.n (.n (.n (.t .none (.n (.o (.p ⟨[ah 5,(6,.v bn),aT 7],[(5,br)]⟩ (.x 0 ⟨[ah 5,(6,.v bn)],[(5,br)]⟩) .l))) .l))))) func159 call159 [(10,br)]
def NZ:aB:=⟨160,[.v b0,.v aK],[br,.bool],uc⟩
theorem Ew:aA E NZ:=
 .q aH (.k [0,1] (.n (.n (.t .none (.n (.o (.p ⟨[(6,.v .bool),aT 7],[]⟩ (.x 0 ⟨[(6,.v .bool)],[]⟩) (.t (.bk [6,7] ⟨[],[]⟩) .l (.t (.x [7] ⟨[(6,.v .bool)],[]⟩) .l .l))))) (.n (.n (.t .none (.n (.o (.k [9] (.p ⟨[(6,.v .bool),ah 8,aT 10],[(8,br)]⟩ (.x 2 ⟨[(6,.v .bool),ah 8],[(8,br)]⟩) (.n (.t (.x [10] ⟨[(6,.v .bool),ah 8],[(8,br)]⟩) (.o (.n (.t (.x [6] ⟨[ah 8,(11,.v bn)],[(8,br)]⟩) .l (.t (.x [11] ⟨[(6,.v .bool),ah 8],[(8,br)]⟩) .l .l)))) .l)))))) .l))))))) func160 call160 [(8,br)]
def QW:aB:=⟨91,[.v aZ],[aZ],wm⟩
theorem KA:aA E QW:=
 .q (ak q2 aH) (.k [0] .l) func91 call91 [(1,eD),(2,aZ)]
def NU:aB:=⟨156,[.v b0,.v b0],[br],zQ⟩
theorem Wv:aA E NU:=
 .q aH (.k [0,1] (.n (.n (.n (.t .none (.n (.o (.p ⟨[ah 5,(6,.v bn),aT 7],[(5,br)]⟩ (.x 0 ⟨[ah 5,(6,.v bn)],[(5,br)]⟩) (.n (.t (.x [7] ⟨[ah 5,(6,.v bn)],[(5,br)]⟩) (.o (.t (.x [] ⟨[ah 5,(6,.v bn)],[(5,br)]⟩) .l (.t (.x [] ⟨[ah 5,(6,.v bn)],[(5,br)]⟩) .l .l))) .l))))) .l))))) func156 call156 [(5,br)]
def NV:aB:=⟨157,[.v b0,.v b0],[aK],wo⟩
theorem JO:aA E NV:=
 .q aH (.k [0,1] (.n (.n (.t .none (.n (.o (.p ⟨[aT 5],[]⟩ (.bk 0 ⟨[],[]⟩) .l))) .l)))) func157 call157
def NW:aB:=⟨158,[.v b0,.v b0],[br],wq⟩
theorem Ww:aA E NW:=
 .q aH (.k [0,1] (.n (.n (.n (.t .none (.n (.o (.p ⟨[ah 5,(6,.v bn),aT 7],[(5,br)]⟩ (.x 0 ⟨[ah 5],[(5,br)]⟩) (.n (.t (.x [7] ⟨[ah 5,(6,.v bn)],[(5,br)]⟩) (.o (.n (.t (.x [] ⟨[ah 5,(8,.v bn)],[(5,br)]⟩) .l .l))) .l))))) .l))))) func158 call158 [(5,br)]
def QZ:aB:=⟨94,[.v aZ,.v aZ],[aZ],m0⟩
theorem uT:aA E QZ:=
 .q (ak Ww (ak JO (ak Wv (ak sM (ak q2 aH))))) (.k [0,1] (.n (.t .none (.d [.a,.a,.c [290] [288],.a,.a,.c [386] [384],.c [290] [288,289],.c [386] [384,385]]) (.t .none (.n (.t .none (.t .none (.d [.a,.a,.a,.a,.c [706] [704],.c [706] [704,705],.c [130] [128]]) .l) .l)) (.t .none (.n (.t .none (.t .none (.d [.a,.a,.a,.a,.c [1026] [1024],.c [1026] [1024,1025],.c [130] [128]]) .l) .l)) (.t .none (.d [.a,.a,.a,.a,.c [1218] [1216],.c [1218] [1216,1217],.c [130] [128]]) .l)))))) func94 call94 [(2,eD),(3,eD),(4,aZ),(5,b0),(6,b0)] [(5,9),(6,12),(23,22),(33,32),(39,38)]
def N0:aB:=⟨161,[.v aZ,.v aZ],[aZ],ua⟩
theorem Ex:aA E N0:=
 .q (ak uT (ak KA aH)) (.k [0,1] (.n (.t .none (.d [.a,.a,.a,.a,.c [130] [128]]) .l))) func161 call161 [(2,eD),(3,eD),(4,aZ)]
def Q0:aB:=⟨95,[.v aZ,.v aK],[aZ],jR⟩
theorem sN:aA E Q0:=
 .q (ak xx (ak Ex (ak Ew (ak JP (ak q2 (ak xv aH)))))) (.k [0,1] (.n (.n (.t .none (.n (.t .none (.t .none (.d [.b [66,68],.b [68],.b [66,72],.b [72],.a,.c [546] [544],.c [546] [544,545],.c [130] [128]]) .l) .l)) (.n (.n (.t (.x [] ⟨[ah 4,ah 7],[(4,dd),(7,dd)]⟩) (.t (.x [] ⟨[ah 4,ah 7,(35,.v .bool)],[(4,dd),(7,dd)]⟩) .l (.t .none (.d [.b [226],.a,.a,.c [226] [224]]) .l)) .l))))))) func95 call95 [(4,aZ),(5,b0),(7,aZ)] [(5,25000),(18,17)]
def NP:aB:=⟨151,[.v aZ,.v aK],[aZ],uf⟩
theorem JN:aA E NP:=
 .q (ak sN aH) (.k [0] (.n (.t .none (.o (.p ⟨[aT 1,ah 2,ah 4],[(2,dd),(4,dd)]⟩ (.x 0 ⟨[aT 1,ah 2,ah 4],[(2,dd),(4,dd)]⟩) .l)) .l))) func151 call151 [(4,aZ)]
def OW:aB:=⟨223,[.v ed],[aK],tV⟩
theorem EC:aA E OW:=
 .q aH (.n (.t (.x [] ⟨[(0,.v ed),aT 2],[]⟩) .l (.t (.x [] ⟨[(0,.v ed),aT 2],[]⟩) .l .l))) func223 call223
def NQ:aB:=⟨152,[.v aZ],[aK],oZ⟩
theorem xw:aA E NQ:=
 .q (ak EC (ak sM aH)) (.k [0] .l) func152 call152 [(1,eD),(3,b0)] [(3,6)]
def QT:aB:=⟨88,[.v aZ,.v aK],[a5],mi⟩
theorem q3:aA E QT:=
 .q (ak xD (ak uS (ak xw (ak JN (ak JM (ak xv aH)))))) (.k [0,1] (.n (.n (.n (.n (.n (.n (.n (.n (.t (.bk [2,7] ⟨[ah 4,ah 5],[(4,dq),(5,dd)]⟩) (.t (.x [] ⟨[ah 4,ah 5,(36,.v .bool)],[(4,dq),(5,dd)]⟩) .l .l) .l)))))))))) func88 call88 [(2,eD),(4,a5),(5,aZ)]
def Ng:aB:=⟨119,[.v aK],[a5],wv⟩
theorem JI:aA E Ng:=
 .q (ak q3 (ak xx aH)) (.k [0] .l) func119 call119 [(2,a5)]
def QV:aB:=⟨90,[.v a5],[a5],iU⟩
theorem ni:aA E QV:=
 .q (ak q3 (ak uS aH)) (.k [0] .l) func90 call90 [(1,hx),(2,a5)]
def QY:aB:=⟨93,[.v aZ],[aK],iT⟩
theorem nj:aA E QY:=
 .q (ak xv aH) (.k [0] .l) func93 call93
def ON:aB:=⟨214,[.v .bool,.v bn],[bn],o3⟩
theorem JZ:aA E ON:=
 .q aH (.k [0,1] .l) func214 call214
def OK:aB:=⟨211,[.v .bool,.v aK],[bn],wy⟩
theorem WX:aA E OK:=
 .q (ak JZ aH) (.k [0,1] (.n (.t (.bk [] ⟨[],[]⟩) (.t (.x [] ⟨[(21,.v .bool)],[]⟩) .l .l) .l))) func211 call211
def Pv:aB:=⟨261,[.v aZ,.v aK],[.bool],wk⟩
theorem Xm:aA E Pv:=
 .q (ak Ew (ak sM aH)) (.k [0,1] .l) func261 call261 [(2,eD),(5,b0)] [(5,13000),(12,10)]
def Pw:aB:=⟨262,[.v .bool,.v aK,.v .bool,.v aK],[.bool],z1⟩
theorem Xn:aA E Pw:=
 .q aH (.k [0,1,2,3] .l) func262 call262
def OL:aB:=⟨212,[.v .bool,.v aZ,.v aK,.v .bool,.v aK],[aZ],zV⟩
theorem WY:aA E OL:=
 .q (ak uT (ak nj (ak Xn (ak Xm (ak xx (ak JN (ak JM aH))))))) (.k [0,1,2,3,4] (.n (.n (.n (.t (.bk [6] ⟨[ah 10,ah 11],[(10,dd),(11,dd)]⟩) (.t (.x [] ⟨[ah 10,ah 11,(27,.v .bool)],[(10,dd),(11,dd)]⟩) .l .l) (.n (.t (.x [] ⟨[ah 10,ah 11,aT 13],[(10,dd),(11,dd)]⟩) (.n (.t .none (.n (.t (.x [6,13] ⟨[ah 10,ah 11,(42,.v .bool)],[(10,dd),(11,dd)]⟩) .l .l)) .l)) (.t (.x [13] ⟨[ah 10,ah 11,(15,.v .bool)],[(10,dd),(11,dd)]⟩) .l (.t (.x [] ⟨[ah 10,ah 11],[(10,dd),(11,dd)]⟩) (.n (.t .none (.d [.b [354],.a,.a,.c [354] [352]]) .l)) .l))))))))) func212 call212 [(6,eD),(10,aZ),(11,aZ),(14,aZ)]
def OM:aB:=⟨213,[.v aZ],[aK,.bool],zO⟩
theorem WZ:aA E OM:=
 .q (ak xv aH) (.k [0] (.n (.n (.n (.n (.t .none (.n (.o (.p ⟨[ah 1,(4,.v bn),aT 5],[(1,dd)]⟩ (.x 0 ⟨[ah 1,(4,.v bn)],[(1,dd)]⟩) .l))) .l)))))) func213 call213
def NF:aB:=⟨141,[.v .bool,.v aZ,.v aK,.v .bool,.v aK],[bn],ug⟩
theorem Et:aA E NF:=
 .q (ak sN (ak JZ (ak WZ (ak WY (ak WX (ak xw aH)))))) (.k [0,1,2,3,4] (.n (.n (.n (.n (.n (.t (.x [12] ⟨[ah 13],[(13,dd)]⟩) .l (.n (.t (.x [] ⟨[aT 12,aT 14],[]⟩) .l (.t (.bk [14] ⟨[],[]⟩) (.o (.t (.x [12] ⟨[(54,.v .bool)],[]⟩) .l .l)) .l)))))))))) func141 call141 [(6,eD),(13,aZ)]
def QM:aB:=⟨81,[.v a5,.v aK],[bn],wx⟩
theorem Kz:aA E QM:=
 .q (ak xD (ak nj (ak ni (ak Et aH)))) (.k [0,1] (.n (.n (.n (.n (.t .none (.d [.b [66,72],.b [72,74],.b [74],.b [66,72],.b [72],.a,.b [66,76],.b [76],.a,.a,.a]) .l)))))) func81 call81
def Ql:aB:=⟨52,[.v aK,.v aK],[bn],r6⟩
theorem Ko:aA E Ql:=
 .q (ak Kz (ak JI aH)) (.k [0,1] .l) func52 call52
def Om:aB:=⟨192,[.v aK,.v aK,.v aK],[.bool],zx⟩
theorem WH:aA E Om:=
 .q aH (.k [0,1,2] .l) func192 call192
def PC:aB:=⟨269,[.v aK],[.bool],qe⟩
theorem Kd:aA E PC:=
 .q aH (.k [0] .l) func269 call269
def O6:aB:=⟨234,[.v aK,.v aK],[.bool],rV⟩
theorem ED:aA E O6:=
 .q (ak Kd aH) (.k [0,1] .l) func234 call234
def O9:aB:=⟨242,[.v eC],[.bool],zC⟩
theorem W5:aA E O9:=
 .q (ak ED aH) (.k [0] (.n (.t .none (.n (.o (.p ⟨[aT 3],[]⟩ (.bk 0 ⟨[],[]⟩) .l))) .l))) func242 call242
def On:aB:=⟨193,[.v gy],[.bool],zu⟩
theorem WI:aA E On:=
 .q (ak W5 aH) (.k [0] (.n (.t (.bk [1] ⟨[],[]⟩) .l (.t .none (.n (.o (.k [1,49] (.p ⟨[aT 50],[]⟩ (.bk 0 ⟨[],[]⟩) (.n (.n (.t .none (.o (.n (.n (.n (.o (.k [50,66,67] (.p ⟨[aT 4,aT 68],[]⟩ (.bk 2 ⟨[],[]⟩) (.n (.n (.t (.bk [68] ⟨[aT 4],[]⟩) (.o (.n (.t (.bk [6] ⟨[],[]⟩) .l .l))) .l)))))))))) .l))))))) .l)))) func193 call193 [(1,ig)]
def NG:aB:=⟨142,[.v bn],[aK,bn],tP⟩
theorem Eu:aA E NG:=
 .q aH (.k [0] .l) func142 call142
def QP:aB:=⟨84,[.v bn],[.bool],qg⟩
theorem EJ:aA E QP:=
 .q (ak Eu aH) (.k [0] .l) func84 call84
def Oq:aB:=⟨195,[.v bn],[.bool],CS⟩
theorem WK:aA E Oq:=
 .q (ak EJ aH) (.k [0] .l) func195 call195
def Pa:aB:=⟨243,[.v kj,.c 195 []],[aK],CU⟩
theorem W6:aA E Pa:=
 .q (ak WK aH) (.k [0,1] (.n (.t .none (.n (.o (.k [7] (.p ⟨[aT 8],[]⟩ (.bk 0 ⟨[],[]⟩) .l)))) .l))) func243 call243
def Oo:aB:=⟨194,[.v kj,.c 195 []],[.bool],zA⟩
theorem WJ:aA E Oo:=
 .q (ak W6 aH) (.k [0,1] .l) func194 call194
def Nj:aB:=⟨121,[.v gy],[aK],qj⟩
theorem Bg:aA E Nj:=
 .q (ak WI (ak WH (ak WJ aH))) (.k [0] (.n (.t .none (.o (.t (.x [1] ⟨[(3,.v .bool)],[]⟩) .l .l)) .l))) func121 call121 [(1,ig)]
def Nk:aB:=⟨122,[.v eC,.v aK],[c8,.bool],An⟩
theorem Wb:aA E Nk:=
 .q aH (.k [0,1] (.n (.n (.n (.n (.t .none (.n (.o (.k [18,19] (.p ⟨[ah 6,ah 7,aT 20],[(6,c8),(7,fE)]⟩ (.bk 0 ⟨[ah 6],[(6,c8)]⟩) (.n (.n (.t (.bk [20] ⟨[ah 6,ah 7],[(6,c8),(7,fE)]⟩) (.o (.n (.t (.bk [8,9] ⟨[ah 6,ah 7],[(6,c8),(7,fE)]⟩) (.t (.x [] ⟨[ah 6,ah 7,(37,.v .bool)],[(6,c8),(7,fE)]⟩) .l .l) .l))) .l))))))) .l)))))) func122 call122 [(15,c8),(17,fE),(4,c8)]
def Ot:aB:=⟨196,[.v gy],[eE],tX⟩
theorem JU:aA E Ot:=
 .q aH (.k [0] (.n (.n (.t .none (.n (.o (.k [1,7] (.p ⟨[ah 3,aT 8],[(3,eE)]⟩ (.x 0 ⟨[ah 3],[(3,eE)]⟩) (.n (.n (.t .none (.o (.n (.n (.o (.k [4,8] (.p ⟨[ah 3,aT 5],[(3,eE)]⟩ (.x 2 ⟨[ah 3],[(3,eE)]⟩) (.n (.t .none (.o (.d [.b [97],.a,.a,.a,.a,.a,.a,.a,.a,.a,.a,.a,.a,.c [1250] [1248],.c [98,1250,1282] [96,1280,97,1281],.c [98,1282] [96,1280,97,1281]])) .l)))))))) .l))))))) .l)))) func196 call196 [(1,ig),(3,eE)]
def PE:aB:=⟨270,[.v (.a7 .dN ki)],[eE],CT⟩
theorem Xq:aA E PE:=
 .q aH (.k [0] .l) func270 call270 [(2,eE)]
def Py:aB:=⟨264,[.v aK,.v aK],[aK],tM⟩
theorem Kc:aA E Py:=
 .q (ak Kd aH) (.k [0,1] .l) func264 call264
def PH:aB:=⟨273,[.v eC],[aK],yU⟩
theorem Xt:aA E PH:=
 .q aH (.k [0] (.n (.n (.t .none (.n (.o (.k [3,6,7] (.p ⟨[aT 8],[]⟩ (.bk 0 ⟨[],[]⟩) .l)))) .l)))) func273 call273
def PG:aB:=⟨272,[.v ki,.v ki],[aK],zw⟩
theorem Xs:aA E PG:=
 .q (ak Xt (ak Kc aH)) (.k [0,1] (.n (.t .none (.d [.a,.a,.a,.a,.a,.a,.a,.a,.a,.a,.c [482] [480],.b [482],.a]) .l))) func272 call272 [(2,(.ptr .bA ki)),(3,(.ptr .bA ki))]
def PZ:aB:=⟨297,[.m eE,.v aK,.v aK,.c 272 []],[],wd⟩
theorem XI:aA E PZ:=
 .q (ak Xs aH) (.k [1,2,3] (.n (.o (.p ⟨[ah 0,aT 8],[(0,eE)]⟩ (.x 0 ⟨[ah 0],[(0,eE)]⟩) (.n (.t .none (.o (.n (.o (.k [8] (.p ⟨[ah 0,aT 9],[(0,eE)]⟩ (.x 2 ⟨[ah 0],[(0,eE)]⟩) (.t (.bk [9] ⟨[ah 0],[(0,eE)]⟩) (.t .none (.d [.a,.a,.a,.a,.a,.b [1],.a,.b [0,2],.b [0],.b [1],.a,.a,.b [0,2],.b [0],.a,.a,.a]) .l) (.t .none (.o (.d [.b [1],.a,.b [1],.a,.a,.b [1],.a,.a,.b [0,2],.b [0],.b [1],.a,.b [0,2],.b [0],.b [0,2],.c [0] [0],.b [0,2],.c [0] [0]])) .l))))))) .l)))))) func297 call297
def PQ:aB:=⟨287,[.m eE,.v aK,.c 272 []],[],CY⟩
theorem XB:aA E PQ:=
 .q (ak XI aH) (.k [1,2] (.n (.n (.t .none (.o (.k [6] (.p ⟨[ah 0,aT 7,aT 8],[(0,eE)]⟩ (.x 0 ⟨[ah 0,aT 7],[(0,eE)]⟩) .l))) (.n (.o (.p ⟨[ah 0,aT 6],[(0,eE)]⟩ (.x 2 ⟨[ah 0],[(0,eE)]⟩) (.n (.o (.t .none (.z [777777] .l) .l)))))))))) func287 call287
def PF:aB:=⟨271,[.m eE,.c 272 []],[],CX⟩
theorem Xr:aA E PF:=
 .q (ak XB aH) (.k [1] .l) func271 call271
def Pb:aB:=⟨244,[.v (.a7 .dN ki)],[eE],zv⟩
theorem W7:aA E Pb:=
 .q (ak Xq (ak Xr aH)) .l func244 call244
def Ou:aB:=⟨197,[.v aK,.v aK,.v (.a7 .dN ki)],[jh],zt⟩
theorem WL:aA E Ou:=
 .q (ak W7 aH) (.k [0,1,2] (.n (.n (.t .none (.n (.o (.k [19] (.p ⟨[ah 6,ah 7,ah 18,aT 20],[(6,dD),(7,dD),(18,eE)]⟩ (.x 0 ⟨[ah 6,ah 7],[(6,dD),(7,dD)]⟩) (.n (.n (.t .none (.o (.n (.t .none (.d [.b [226,240],.b [240],.b [290,292],.b [292],.c [898] [896],.c [928,898,240,242] [928,227,245,247],.b [226,244],.b [244],.b [290,300],.b [300],.c [1090] [1088],.c [1120,1090,244,246] [1120,227,241,243],.b [226,240],.c [928,240,242] [224,928,929],.b [226,244],.c [1120,244,246] [224,1120,1121]]) .l))) .l))))))) (.t .none (.n (.o (.k [48] (.p ⟨[ah 6,ah 7,aT 49],[(6,dD),(7,dD)]⟩ (.x 2 ⟨[ah 6,ah 7],[(6,dD),(7,dD)]⟩) (.n (.n (.t .none (.o (.n (.d [.b [226,236],.b [236],.a,.a,.b [236,238],.b [238],.b [226,236],.b [236],.a,.b [236,238],.b [238],.a,.b [236,238],.c [238] [224]]))) .l))))))) .l))))) func197 call197 [(6,jh),(15,c8),(16,jh),(7,jh),(9,ki)]
def Nl:aB:=⟨123,[.v gy],[jK,aK],zr⟩
theorem Wc:aA E Nl:=
 .q (ak WL (ak JU (ak Bg aH))) (.k [0] (.n (.n (.n (.n (.t .none (.n (.o (.k [1,16] (.p ⟨[ah 2,ah 5,ah 15,aT 17],[(2,(.optr jK)),(5,eE),(15,eE)]⟩ (.x 0 ⟨[ah 2,ah 5],[(2,(.optr jK)),(5,eE)]⟩) (.n (.n (.t (.x [17] ⟨[ah 2,ah 5,ah 15],[(2,(.optr jK)),(5,eE),(15,eE)]⟩) .l .l))))))) .l)))))) func123 call123 [(1,ig),(2,jK),(5,eE),(7,ki)] [(999999,36)]
def Ov:aB:=⟨198,[.v aK],[fS],vY⟩
theorem JV:aA E Ov:=
 .q aH (.k [0] (.n (.n (.t .none (.n (.o (.k [8] (.p ⟨[ah 3,aT 9],[(3,fS)]⟩ (.x 0 ⟨[ah 3],[(3,fS)]⟩) .l)))) .l)))) func198 call198 [(6,fS),(15,fE)]
def Ow:aB:=⟨199,[.v gy],[eE],zq⟩
theorem WM:aA E Ow:=
 .q (ak JU (ak Bg aH)) (.k [0] .l) func199 call199 [(1,ig),(2,eE)]
def Oy:aB:=⟨200,[.m fS,.v aK,.v aK],[],v5⟩
theorem JW:aA E Oy:=
 .q aH (.k [1,2] (.n (.t .none (.d [.b [1],.a,.b [0,2],.b [0],.a,.b [1],.a,.b [0,2],.b [0],.a,.b [0],.c [0] [0],.b [0],.c [0] [0]]) .l))) func200 call200
def Pc:aB:=⟨245,[.v (.a7 .dN (.a7 .dN .bool)),.v aK],[c8],zd⟩
theorem W8:aA E Pc:=
 .q aH (.k [0,1] (.n (.n (.t .none (.n (.o (.k [11,12] (.p ⟨[ah 5,aT 13],[(5,c8)]⟩ (.x 0 ⟨[ah 5],[(5,c8)]⟩) (.n (.n (.t (.x [13] ⟨[ah 5],[(5,c8)]⟩) .l .l))))))) .l)))) func245 call245 [(5,c8)]
def Oz:aB:=⟨201,[.v (.a7 .dN (.a7 .dN .bool))],[hY],v2⟩
theorem JX:aA E Oz:=
 .q (ak W8 aH) (.k [0] (.n (.n (.t .none (.n (.o (.k [10] (.p ⟨[ah 2,ah 3,aT 11],[(2,(.optr hY)),(3,(.optr hY))]⟩ (.x 0 ⟨[ah 2,ah 3],[(2,(.optr hY)),(3,(.optr hY))]⟩) (.n (.n (.t .none (.o (.n (.d [.b [98,100],.b [100],.a,.a,.a,.c [610] [608],.b [100,102],.c [610,102] [96,608,609]]))) .l))))))) .l)))) func201 call201 [(2,hY),(7,(.osl fU)),(3,hY)] [(999999,19)]
def Nm:aB:=⟨124,[.v gy],[fi,aK],vX⟩
theorem Wd:aA E Nm:=
 .q (ak JX (ak JW (ak WM (ak JV (ak Bg aH))))) (.k [0] (.n (.n (.n (.n (.t .none (.n (.o (.k [27] (.p ⟨[ah 2,ah 5,ah 26,aT 28],[(2,(.optr fi)),(5,fS),(26,eE)]⟩ (.x 1 ⟨[ah 2,ah 5],[(2,(.optr fi)),(5,fS)]⟩) .l)))) .l)))))) func124 call124 [(1,ig),(2,fi),(7,ki)] [(999999,40)]
def O4:aB:=⟨230,[.v eC,.v aK],[.bool],ze⟩
theorem W3:aA E O4:=
 .q aH (.k [0,1] (.n (.n (.t .none (.n (.o (.k [8,9] (.p ⟨[aT 5,aT 10],[]⟩ (.bk 0 ⟨[],[]⟩) (.n (.n (.t (.bk [10] ⟨[aT 5],[]⟩) (.o (.n (.t (.bk [7] ⟨[],[]⟩) .l .l))) .l))))))) .l)))) func230 call230
def O7:aB:=⟨235,[.v aK],[.bool],zE⟩
theorem W4:aA E O7:=
 .q aH (.k [0] .l) func235 call235
def Ok:aB:=⟨185,[.v eC,.v aK],[aK,.bool],zy⟩
theorem WF:aA E Ok:=
 .q (ak W4 (ak ED aH)) (.k [0,1] (.n (.n (.n (.t .none (.o (.k [6] (.p ⟨[aT 7,aT 8],[]⟩ (.x 0 ⟨[aT 7],[]⟩) .l))) .l))))) func185 call185
def O5:aB:=⟨231,[.v jJ,.v aK,.v aK],[.bool],tQ⟩
theorem J6:aA E O5:=
 .q (ak WF aH) (.k [0,1,2] .l) func231 call231 [(3,ji)]
def Oi:aB:=⟨178,[.v jJ],[aK],vW⟩
theorem JT:aA E Oi:=
 .q (ak J6 (ak W3 aH)) (.k [0] (.n (.n (.n (.t .none (.n (.o (.k [1,3,16,17] (.p ⟨[aT 18],[]⟩ (.bk 0 ⟨[],[]⟩) (.n (.n (.t (.bk [18] ⟨[],[]⟩) .l .l))))))) (.t .none (.n (.o (.k [1,35,36] (.p ⟨[aT 37],[]⟩ (.bk 2 ⟨[],[]⟩) (.n (.n (.t .none (.o (.n (.n (.o (.k [6,37,42,43] (.p ⟨[aT 44],[]⟩ (.bk 4 ⟨[],[]⟩) .l)))))) .l))))))) .l)))))) func178 call178 [(1,ji)]
def Pf:aB:=⟨248,[.v jJ,.v aK],[.bool],zh⟩
theorem Xb:aA E Pf:=
 .q aH (.k [0,1] .l) func248 call248 [(2,ji)]
def P5:aB:=⟨311,[.v bn],[aK],Hm⟩
theorem XN:aA E P5:=
 .q aH (.n (.t (.x [] ⟨[(0,.v bn),aT 2],[]⟩) .l (.t (.x [] ⟨[(0,.v bn),aT 2],[]⟩) .l (.t (.x [] ⟨[(0,.v bn),aT 2],[]⟩) .l .l)))) func311 call311
def P2:aB:=⟨301,[.v bn],[aK],CR⟩
theorem XK:aA E P2:=
 .q (ak XN aH) (.k [0] .l) func301 call301
def P3:aB:=⟨303,[.m c8,.v aK,.v aK],[],zD⟩
theorem XL:aA E P3:=
 .q (ak ED aH) (.k [1,2] (.n (.o (.p ⟨[ah 0,aT 6],[(0,c8)]⟩ (.x 0 ⟨[ah 0],[(0,c8)]⟩) (.n (.t .none (.o (.n (.o (.k [6] (.p ⟨[ah 0,aT 7],[(0,c8)]⟩ (.x 2 ⟨[ah 0],[(0,c8)]⟩) (.t (.bk [7] ⟨[ah 0],[(0,c8)]⟩) (.t .none (.d [.a,.a,.a,.a,.b [1],.a,.b [0,2],.b [0],.b [1],.a,.a,.b [0,2],.b [0],.a,.a]) .l) (.t .none (.o (.d [.b [1],.a,.b [1],.a,.a,.b [1],.a,.a,.b [0,2],.b [0],.b [1],.a,.b [0,2],.b [0],.b [0,2],.c [0] [0],.b [0,2],.c [0] [0]])) .l))))))) .l)))))) func303 call303
def P1:aB:=⟨300,[.m c8,.v aK,.v aK,.v aK],[],zF⟩
theorem XJ:aA E P1:=
 .q (ak XL aH) (.n (.n (.o (.p ⟨[ah 0,aT 1,aT 2,aT 3,(8,.v .bool),(9,.v .bool)],[(0,c8)]⟩ .r (.o (.n (.n (.t .none (.t .none (.z [777777] .l) .l) .l)))))))) func300 call300
def PR:aB:=⟨289,[.m c8],[],wc⟩
theorem XC:aA E PR:=
 .q (ak XK (ak XJ aH)) .l func289 call289
def Pg:aB:=⟨249,[.v eC],[.bool],zg⟩
theorem Xc:aA E Pg:=Ga.aaD rfl (sort:=λd=>(wc (d,())).map λa=>a.1) (λe f b=>by obtain⟨a,c,rfl⟩:=dZ.1 b;exact XC.2 (e,()) a c)
def Pe:aB:=⟨247,[.v aK,.v ji],[.bool],CP⟩
theorem Xa:aA E Pe:=
 .q (ak Xb aH) (.k [0,1] .l) func247 call247
def PI:aB:=⟨274,[.v eC,.c 247 [ji]],[aK],CV⟩
theorem Xu:aA E PI:=
 .q (ak Xa aH) (.k [0,1] (.n (.t .none (.n (.o (.k [7] (.p ⟨[aT 8],[]⟩ (.bk 0 ⟨[],[]⟩) .l)))) .l))) func274 call274
def Pd:aB:=⟨246,[.v eC,.c 247 [ji]],[.bool],zB⟩
theorem W9:aA E Pd:=
 .q (ak Xu aH) (.k [0,1] .l) func246 call246
def OA:aB:=⟨202,[.v jJ,.v eC],[aK],zc⟩
theorem WP:aA E OA:=
 .q (ak Xc (ak JT (ak W9 aH))) (.k [0,1] .l) func202 call202 [(2,ji)]
def OB:aB:=⟨203,[.v jJ,.v eC],[fi],zf⟩
theorem WQ:aA E OB:=
 .q (ak J6 (ak JX (ak JW (ak JV aH)))) (.k [0,1] (.n (.n (.t .none (.n (.o (.k [2,13,14] (.p ⟨[ah 4,ah 5,aT 15],[(4,(.optr fi)),(5,fS)]⟩ (.x 0 ⟨[ah 4,ah 5],[(4,(.optr fi)),(5,fS)]⟩) (.n (.n (.t .none (.o (.n (.n (.o (.k [6,7,15,22,23] (.p ⟨[ah 4,ah 5,aT 24],[(4,(.optr fi)),(5,fS)]⟩ (.x 2 ⟨[ah 4,ah 5],[(4,(.optr fi)),(5,fS)]⟩) (.n (.n (.t (.x [24] ⟨[ah 4,ah 5],[(4,(.optr fi)),(5,fS)]⟩) .l .l))))))))) .l))))))) .l)))) func203 call203 [(2,ji),(4,fi)] [(999999,40)]
def Nn:aB:=⟨125,[.v jJ,.v eC],[fi,aK],vZ⟩
theorem We:aA E Nn:=
 .q (ak WQ (ak WP aH)) (.k [0,1] .l) func125 call125 [(2,ji),(4,fi)]
def OS:aB:=⟨219,[.v b0],[b0],gJ⟩
theorem j3:aA E OS:=
 .q aH (.k [0] (.n (.n (.t .none (.o (.p ⟨[aT 3],[]⟩ (.x 0 ⟨[aT 3],[]⟩) (.t (.bk [3] ⟨[],[]⟩) .l .l))) .l)))) func219 call219
def OT:aB:=⟨220,[.v .bool,.v b0],[aZ],jQ⟩
theorem po:aA E OT:=
 .q (ak j3 aH) (.k [0] .l) func220 call220 [(4,aZ)]
def NJ:aB:=⟨145,[.v aK],[aZ],rZ⟩
theorem Bh:aA E NJ:=
 .q (ak po aH) (.k [0] (.n (.n (.t (.x [] ⟨[ah 2,(3,.v bn)],[(2,dd)]⟩) .l .l)))) func145 call145 [(2,aZ)] [(19,18)]
def NK:aB:=⟨146,[.v bn],[.bool],za⟩
theorem Wt:aA E NK:=
 .q aH (.k [0] .l) func146 call146
def OU:aB:=⟨221,[.v b0],[br],r4⟩
theorem Bk:aA E OU:=
 .q aH (.k [0] .l) func221 call221 [(2,br)]
def NL:aB:=⟨147,[.v aZ],[aZ],qi⟩
theorem Ev:aA E NL:=
 .q (ak Bk (ak po aH)) (.k [0] (.n (.t .none (.d [.a,.a,.a,.a,.a,.c [258] [256],.c [258] [256,257],.c [66] [64]]) .l))) func147 call147 [(1,eD),(2,aZ)] [(9,8)]
def N6:aB:=⟨167,[],[a5],tN⟩
theorem Bi:aA E N6:=
 .q aH .l func167 call167 [(0,a5)]
def OO:aB:=⟨215,[.v aZ],[aZ],zk⟩
theorem W0:aA E OO:=
 .q (ak Bk (ak po aH)) (.k [0] (.n (.t .none (.d [.a,.a,.a,.a,.c [226] [224],.c [226] [224,225],.c [66] [64]]) .l))) func215 call215 [(1,eD),(2,aZ)] [(8,7)]
def NI:aB:=⟨144,[.v aZ],[aK],mZ⟩
theorem sL:aA E NI:=
 .q (ak j3 aH) (.k [0] .l) func144 call144 [(1,eD)]
def OP:aB:=⟨216,[.v aZ],[aK],v8⟩
theorem J0:aA E OP:=
 .q (ak J2 aH) (.k [0] (.n (.t .none (.n (.o (.k [6,7] (.p ⟨[aT 8],[]⟩ (.bk 0 ⟨[],[]⟩) .l)))) .l))) func216 call216 [(1,eD)]
def Px:aB:=⟨263,[.v b0],[aK],tT⟩
theorem Kb:aA E Px:=
 .q (ak EC aH) (.k [0] .l) func263 call263
def OQ:aB:=⟨217,[.v aZ],[aK],oW⟩
theorem xz:aA E OQ:=
 .q (ak Kb (ak j3 aH)) (.k [0] .l) func217 call217 [(1,eD)]
def PA:aB:=⟨266,[.v b0,.v aK],[b0],r2⟩
theorem EE:aA E PA:=
 .q (ak j3 aH) (.k [0,1] (.n (.n (.n (.n (.t .none (.n (.o (.k [5,6,25,26] (.p ⟨[ah 7,aT 27],[(7,br)]⟩ (.x 0 ⟨[ah 7],[(7,br)]⟩) .l)))) (.t .none (.z [7] .l) .l))))))) func266 call266 [(24,br)]
def PP:aB:=⟨284,[.v ed],[.bool],CQ⟩
theorem XA:aA E PP:=
 .q aH (.k [0] .l) func284 call284
def PY:aB:=⟨296,[.v b0,.c 284 []],[aK],CW⟩
theorem XH:aA E PY:=
 .q (ak XA aH) (.k [0,1] (.n (.t .none (.n (.o (.k [7] (.p ⟨[aT 8],[]⟩ (.bk 0 ⟨[],[]⟩) .l)))) .l))) func296 call296
def PO:aB:=⟨283,[.v b0,.c 284 []],[.bool],wb⟩
theorem Xz:aA E PO:=
 .q (ak XH aH) (.k [0,1] .l) func283 call283
def PB:aB:=⟨267,[.v b0,.v aK],[b0,.bool],tS⟩
theorem EF:aA E PB:=
 .q (ak j3 (ak Xz aH)) (.k [0,1] (.n (.n (.n (.t (.x [6,7] ⟨[(8,.v .bool)],[]⟩) .l (.n (.t .none (.n (.o (.k [6,7,8,45] (.p ⟨[ah 9,aT 46],[(9,br)]⟩ (.x 0 ⟨[ah 9],[(9,br)]⟩) (.n (.n (.t (.x [46] ⟨[ah 9],[(9,br)]⟩) (.o (.n (.n (.t (.x [10] ⟨[ah 9,(11,.v bn)],[(9,br)]⟩) .l .l)))) .l))))))) (.t .none (.z [9] .l) .l)))))))) func267 call267 [(43,br)]
def OY:aB:=⟨225,[.v b0,.v b0],[b0],r1⟩
theorem Bl:aA E OY:=
 .q (ak j3 aH) (.n (.t (.x [] ⟨[(0,.v b0),(1,.v b0)],[]⟩) .l (.n (.n (.t .none (.n (.o (.k [1,21,22] (.p ⟨[ah 5,(6,.v bn),aT 23],[(5,br)]⟩ (.x 0 ⟨[ah 5,(6,.v bn)],[(5,br)]⟩) (.n (.n (.t (.x [23] ⟨[ah 5,(6,.v bn)],[(5,br)]⟩) (.o (.n (.n (.t (.x [] ⟨[ah 5,(9,.v bn)],[(5,br)]⟩) .l .l)))) .l))))))) .l))))) func225 call225 [(20,br)] [(57,56)]
def O1:aB:=⟨228,[.v aZ,.v aK],[aZ,aK],oX⟩
theorem J4:aA E O1:=
 .q (ak EF (ak EE (ak Bl (ak po (ak j3 aH))))) (.k [0,1] (.n (.t (.bk [2] ⟨[ah 4],[(4,dd)]⟩) (.t (.x [] ⟨[ah 4,(14,.v .bool)],[(4,dd)]⟩) .l .l) (.n (.t .none (.n (.t .none (.t .none (.d [.a,.a,.a,.a,.a,.a,.c [130] [128],.a]) .l) .l)) (.n (.t (.x [2] ⟨[ah 4,(7,.v b0)],[(4,dd)]⟩) (.t (.x [7] ⟨[ah 4,(38,.v .bool)],[(4,dd)]⟩) .l .l) .l))))))) func228 call228 [(2,eD),(4,aZ)] [(41,40)]
def OR:aB:=⟨218,[.v aZ,.v aK],[aZ],vU⟩
theorem J1:aA E OR:=
 .q (ak J4 aH) (.k [0] (.n (.t .none (.o (.p ⟨[aT 1,ah 2,ah 4],[(2,dd),(4,dd)]⟩ (.x 0 ⟨[aT 1,ah 2,ah 4],[(2,dd),(4,dd)]⟩) .l)) .l))) func218 call218 [(4,aZ)]
def NH:aB:=⟨143,[.v a5],[a5,.bool],mh⟩
theorem sK:aA E NH:=
 .q (ak J1 (ak xz (ak J0 (ak W0 (ak Bi (ak sL aH)))))) (.k [0] (.n (.n (.n (.n (.n (.t (.bk [1,5] ⟨[ah 2,ah 4],[(2,dq),(4,dd)]⟩) (.t (.x [] ⟨[ah 2,ah 4,(30,.v .bool)],[(2,dq),(4,dd)]⟩) (.d [.a,.a,.b [130],.a,.a,.a,.a,.a,.a,.a,.a,.a,.a]) .l) (.t .none (.d [.b [130],.a,.a,.a,.a,.a,.a,.a,.c [66] [64],.a]) .l)))))))) func143 call143 [(1,hx),(2,a5),(4,aZ)]
def NM:aB:=⟨148,[.v aZ,.v aK],[a5],qf⟩
theorem xu:aA E NM:=
 .q (ak sK aH) (.k [0,1] .l) func148 call148 [(2,eD),(4,a5),(5,a5)]
def QR:aB:=⟨86,[.v bn],[a5],nY⟩
theorem Bo:aA E QR:=
 .q (ak xu (ak Ev (ak Wt (ak Bh (ak Eu aH))))) (.k [0] (.n (.n (.t (.bk [] ⟨[ah 2,aT 3,(4,.v bn)],[(2,dq)]⟩) .l (.n (.t (.x [3] ⟨[ah 2,ah 5],[(2,dq),(5,dd)]⟩) .l .l)))))) func86 call86 [(2,a5),(5,aZ)]
def Qo:aB:=⟨55,[.v gy,.v eC],[(.ptr .bA (.st (.pr aK (.pr fi (.pr (.a7 .bA (.dC .bA a5)) .nil))))),aK],qs⟩
theorem Kq:aA E Qo:=
 .q (ak Bo (ak We (ak Wd (ak Wc (ak Wb (ak Bg aH)))))) (.k [0,1] (.n (.n (.n (.n (.n (.n (.n (.n (.t .none (.d [.b [66,72],.b [72],.b [354],.b [66,72],.b [72],.c [1922] [1920],.c [1922,1954] [1920,1952,1921],.c [1954,1986] [1952,1984,1953],.c [418,1986] [416,1984,417,1985]]) (.t .none (.n (.o (.k [7,67] (.p ⟨[ah 2,ah 13,aT 68],[(2,(.optr gy)),(13,rE)]⟩ (.x 0 ⟨[ah 2,ah 13],[(2,(.optr gy)),(13,rE)]⟩) .l)))) (.t .none (.n (.o (.k [7,80] (.p ⟨[ah 2,ah 13,aT 81],[(2,(.optr gy)),(13,rE)]⟩ (.x 2 ⟨[ah 13],[(13,rE)]⟩) (.n (.n (.t .none (.o (.n (.n (.o (.k [15,81] (.p ⟨[ah 2,ah 13,aT 16],[(2,(.optr gy)),(13,rE)]⟩ (.x 4 ⟨[ah 2,ah 13],[(2,(.optr gy)),(13,rE)]⟩) (.n (.t (.x [16] ⟨[ah 2,ah 13],[(2,(.optr gy)),(13,rE)]⟩) (.o (.n (.n (.t .none (.n (.d [.b [417],.b [418],.b [418,428],.b [428],.a,.a,.a,.b [428,430],.b [430],.a,.a,.a,.b [66,84],.b [84],.a,.a,.a,.a,.c [430] [416]])) .l)))) .l)))))))) .l))))))) (.t .none (.z [13] .l) .l))))))))))))) func55 call55 [(4,(.ptr .bA (.st (.pr aK (.pr fi (.pr (.a7 .bA (.dC .bA a5)) .nil)))))),(7,fU),(9,jK),(11,fi),(60,(.osl (.mp a5))),(76,(.mp a5))] [(7,35000)]
def Pj:aB:=⟨250,[.v aK],[l8],y6⟩
theorem Xd:aA E Pj:=
 .q aH (.k [0] (.n (.t .none (.d [.a,.c [194] [192],.a,.c [258] [256],.c [194,258,290] [192,256,288,193,257],.c [290,322] [288,320,289],.c [98,322] [96,320,97,321]]) (.t .none (.n (.o (.k [11] (.p ⟨[ah 3,aT 12],[(3,l8)]⟩ (.x 0 ⟨[ah 3],[(3,l8)]⟩) (.n (.n (.t .none (.o (.n (.d [.b [97],.b [98],.b [98,100],.b [100],.a,.b [97],.b [98],.b [98,104],.b [104],.a,.b [100,102],.c [102] [96],.b [104,106],.c [106] [96]]))) .l))))))) .l)))) func250 call250 [(6,c8),(8,c8)]
def Pk:aB:=⟨251,[.m l8,.v aK,.v aK],[],y5⟩
theorem Xe:aA E Pk:=
 .q aH (.k [2] (.o (.p ⟨[ah 0,aT 1],[(0,l8)]⟩ (.x 0 ⟨[ah 0],[(0,l8)]⟩) (.t (.bk [1] ⟨[ah 0],[(0,l8)]⟩) .l (.o (.n (.n (.t (.x [6] ⟨[ah 0],[(0,l8)]⟩) .l .l)))))))) func251 call251
def OC:aB:=⟨204,[.v jJ],[c8,aK],y4⟩
theorem WR:aA E OC:=
 .q (ak Xe (ak Xd (ak JT aH))) (.k [0] (.n (.n (.n (.n (.t .none (.n (.o (.k [20,21] (.p ⟨[ah 5,aT 22],[(5,l8)]⟩ (.x 0 ⟨[ah 5],[(5,l8)]⟩) (.n (.n (.t .none (.o (.n (.n (.o (.k [6,22,27,28] (.p ⟨[ah 5,aT 29],[(5,l8)]⟩ (.x 2 ⟨[ah 5],[(5,l8)]⟩) .l)))))) .l))))))) .l)))))) func204 call204 [(1,ji),(2,c8)]
def OD:aB:=⟨205,[.v jJ,.v eC,.v aK],[c8],Am⟩
theorem WS:aA E OD:=
 .q aH (.k [0,1,2] (.n (.n (.n (.t .none (.n (.o (.k [23,24] (.p ⟨[ah 7,aT 25],[(7,fE)]⟩ (.x 0 ⟨[ah 7],[(7,fE)]⟩) (.n (.n (.t .none (.o (.n (.o (.k [25] (.p ⟨[ah 7,aT 9],[(7,fE)]⟩ (.x 2 ⟨[ah 7],[(7,fE)]⟩) (.t (.bk [9] ⟨[ah 7],[(7,fE)]⟩) .l .l)))))) .l))))))) (.n (.t .none (.n (.o (.k [52] (.p ⟨[ah 10,(51,.s (.ref 7 [])),aT 53],[(7,fE),(10,c8)]⟩ (.x 4 ⟨[ah 10],[(10,c8)]⟩) (.n (.n (.t (.x [53] ⟨[ah 10,(51,.s (.ref 7 []))],[(7,fE),(10,c8)]⟩) .l .l))))))) .l))))))) func205 call205 [(3,ji),(15,fE),(10,c8)]
def No:aB:=⟨126,[.v jJ],[(.osl c8),aK],Al⟩
theorem Wf:aA E No:=
 .q (ak WS (ak WR aH)) (.k [0] (.n (.n (.n (.n (.t .none (.n (.o (.k [1,4,22] (.p ⟨[ah 6,aT 23],[(6,(.osl c8))]⟩ (.x 0 ⟨[ah 6],[(6,(.osl c8))]⟩) (.n (.n (.t .none (.o (.n (.n (.o (.k [7,23,30] (.p ⟨[ah 6,ah 29,aT 31],[(6,(.osl c8)),(29,c8)]⟩ (.x 2 ⟨[ah 6],[(6,(.osl c8))]⟩) .l)))))) .l))))))) .l)))))) func126 call126 [(1,ji),(4,fU),(20,(.osl c8)),(2,(.osl c8))] [(4,13000)]
def Qp:aB:=⟨56,[.v yq],[mT],yO⟩
theorem XW:aA E Qp:=
 .q (ak Wf aH) (.k [0] (.n (.n (.t .none (.d [.a,.a,.a,.a,.a,.c [738] [736],.a,.a,.a,.a,.c [898] [896],.a,.a,.a,.a,.c [1058] [1056],.c [738,898,1058,1090] [736,896,1056,1088,737,897,1057],.c [1090,1122] [1088,1120,1089],.c [162,1122] [160,1120,161,1121]]) (.t .none (.n (.o (.k [36,37] (.p ⟨[ah 5,aT 38],[(5,mT)]⟩ (.x 0 ⟨[ah 5],[(5,mT)]⟩) (.n (.n (.t .none (.o (.n (.n (.o (.k [6,38,43,44] (.p ⟨[ah 5,aT 45],[(5,mT)]⟩ (.x 2 ⟨[ah 5],[(5,mT)]⟩) (.n (.n (.t (.x [45] ⟨[ah 5],[(5,mT)]⟩) (.o (.n (.n (.t .none (.d [.b [161],.b [162],.b [162,176],.b [176],.a,.b [161],.b [162],.b [162,176],.b [176],.a,.b [176,178],.b [178],.a,.c [2082] [2080],.c [2112,2082,178] [2112,163,177],.b [176,178],.c [2112,178] [160,2112,2113]]) .l)))) .l))))))))) .l))))))) .l))))) func56 call56 [(23,lD),(28,(.osl (.mp a5))),(33,(.osl c8)),(3,(.a7 .bA fU))] [(3,16000)]
def M7:aB:=⟨107,[.v yq,.v aK,.v aK],[a5],wN⟩
theorem JH:aA E M7:=
 .q aH (.k [0,1,2] .l) func107 call107 [(6,a5)]
def N5:aB:=⟨166,[.v a5,.v a5],[a5,a5,.bool],tO⟩
theorem Ez:aA E N5:=
 .q (ak sK aH) (.k [0,1] (.n (.n (.n (.t .none (.d [.b [130],.b [162],.a,.a,.a,.a,.c [130] [128],.c [162] [160],.a]) .l))))) func166 call166 [(2,hx),(3,hx),(4,a5),(5,a5)]
def OX:aB:=⟨224,[.v b0,.v b0],[b0],zp⟩
theorem W1:aA E OX:=
 .q (ak j3 aH) (.k [0,1] (.n (.t (.bk [] ⟨[],[]⟩) .l (.n (.t .none (.n (.o (.k [26,27] (.p ⟨[ah 5,aT 28],[(5,br)]⟩ (.x 0 ⟨[ah 5],[(5,br)]⟩) (.n (.n (.t .none (.o (.n (.n (.t .none (.n (.o (.k [6,7,28,33,34] (.p ⟨[ah 5,(8,.v bn),aT 35],[(5,br)]⟩ (.x 2 ⟨[ah 5,(8,.v bn)],[(5,br)]⟩) .l)))) .l)))) .l))))))) (.t .none (.z [5] .l) .l)))))) func224 call224 [(25,br)]
def N7:aB:=⟨168,[.v aZ,.v aZ],[aZ],v7⟩
theorem JQ:aA E N7:=
 .q (ak W1 (ak po (ak j3 aH))) (.k [0,1] (.n (.t .none (.d [.a,.a,.a,.a,.a,.a,.a,.a,.a,.a,.a,.a,.a,.c [130] [128]]) .l))) func168 call168 [(2,eD),(3,eD),(4,aZ)]
def M3:aB:=⟨103,[.v a5,.v a5],[a5],vP⟩
theorem JE:aA E M3:=
 .q (ak JQ (ak Bi (ak Ez (ak xu aH)))) (.k [0,1] (.n (.n (.n (.t .none (.d [.b [66,72],.b [72],.b [98,104],.b [104],.a,.b [66,76],.b [76],.b [98,108],.b [108],.a,.a,.c [130] [128]]) .l))))) func103 call103 [(4,a5)]
def Od:aB:=⟨173,[.v a5],[a5],vQ⟩
theorem JR:aA E Od:=
 .q (ak Ev (ak sK aH)) (.k [0] (.n (.n (.t (.x [] ⟨[ah 1,ah 2],[(1,dq),(2,dq)]⟩) .l .l)))) func173 call173 [(2,a5)]
def Oa:aB:=⟨170,[.v aZ,.v aK],[aZ],lJ⟩
theorem uR:aA E Oa:=
 .q (ak J4 aH) (.k [0,1] .l) func170 call170 [(4,aZ)]
def PN:aB:=⟨282,[.v ed],[.bool],yV⟩
theorem Xy:aA E PN:=
 .q aH (.k [0] .l) func282 call282
def Pz:aB:=⟨265,[.v ed,.v ed],[aK],yT⟩
theorem Xo:aA E Pz:=
 .q (ak Xy aH) (.k [0,1] .l) func265 call265
def OZ:aB:=⟨226,[.v b0,.v b0],[aK],r0⟩
theorem Bm:aA E OZ:=
 .q (ak Xo (ak Kc aH)) (.k [0,1] (.n (.n (.t .none (.n (.o (.p ⟨[aT 5],[]⟩ (.bk 0 ⟨[],[]⟩) .l))) .l)))) func226 call226
def O0:aB:=⟨227,[.v b0,.v b0],[b0],tU⟩
theorem J3:aA E O0:=
 .q (ak j3 aH) (.k [0,1] (.n (.n (.n (.t .none (.n (.o (.k [13,14] (.p ⟨[ah 5,(6,.v bn),aT 15],[(5,br)]⟩ (.x 0 ⟨[ah 5],[(5,br)]⟩) (.n (.n (.t (.x [15] ⟨[ah 5,(6,.v bn)],[(5,br)]⟩) (.o (.n (.n (.t (.x [7] ⟨[ah 5,(9,.v bn)],[(5,br)]⟩) .l .l)))) .l))))))) (.t .none (.z [5] .l) .l)))))) func227 call227 [(12,br)]
def N8:aB:=⟨169,[.v aZ,.v aZ],[aZ],qh⟩
theorem Bj:aA E N8:=
 .q (ak J3 (ak Bm (ak Bl (ak po (ak j3 aH))))) (.k [0,1] (.n (.n (.t .none (.o (.n (.t .none (.t .none (.d [.a,.a,.a,.a,.a,.a,.c [130] [128]]) .l) (.n (.t .none (.t .none (.d [.a,.a,.a,.a,.a,.a,.c [130] [128]]) .l) .l))))) (.t .none (.d [.a,.a,.a,.a,.a,.a,.c [130] [128]]) .l))))) func169 call169 [(2,eD),(3,eD),(4,aZ)]
def M4:aB:=⟨104,[.v (.a7 .dN a5)],[a5],vS⟩
theorem JF:aA E M4:=
 .q (ak uR (ak Bj (ak Bi (ak xu (ak sK aH))))) (.k [0] (.n (.n (.n (.t .none (.n (.o (.k [12,13] (.p ⟨[ah 2,ah 3,aT 4,aT 14],[(2,dq),(3,hd)]⟩ (.bk 0 ⟨[ah 2,ah 3,aT 4],[(2,dq),(3,hd)]⟩) .l)))) (.n (.t .none (.n (.o (.k [4,36] (.p ⟨[ah 2,ah 9,(35,.s (.ref 3 [])),aT 37],[(2,dq),(3,hd),(9,dd)]⟩ (.x 2 ⟨[ah 2,ah 9],[(2,dq),(9,dd)]⟩) (.n (.n (.t .none (.o (.n (.d [.b [290],.b [354,360],.b [360],.b [354,364],.b [364],.a,.a,.a,.a,.c [290] [288]]))) .l))))))) .l))))))) func104 call104 [(2,a5),(3,hd),(6,a5),(7,a5),(9,aZ),(11,a5)]
def Np:aB:=⟨127,[.v (.ptr .dN (.st (.pr (.a7 .dN eC) (.pr (.a7 .dN kj) (.pr (.a7 .dN (.dC .dN a5)) (.pr (.a7 .dN eC) .nil)))))),.v yq,.v aK,.v aK],[a5],vN⟩
theorem Wg:aA E Np:=
 .q (ak JR (ak JH (ak JF (ak JE aH)))) (.k [0,1,2,3] (.n (.n (.t .none (.n (.o (.k [25,26] (.p ⟨[ah 8,ah 9,aT 27],[(8,dq),(9,hd)]⟩ (.x 0 ⟨[ah 8,ah 9],[(8,dq),(9,hd)]⟩) (.n (.n (.t (.x [27] ⟨[ah 8,ah 9],[(8,dq),(9,hd)]⟩) (.o (.n (.n (.n (.t .none (.d [.b [289],.b [386],.a,.a,.a,.a,.a,.a,.a,.a,.a,.a,.a,.c [1826] [1824],.c [290,1826,1858] [288,1856,289,1857],.c [290,1858] [288,1856,289,1857]]) .l))))) .l))))))) .l)))) func127 call127 [(8,a5),(12,a5)]
def QQ:aB:=⟨85,[.v a5],[aK],oV⟩
theorem Bn:aA E QQ:=
 .q (ak sL (ak sK aH)) (.k [0] .l) func85 call85
def M6:aB:=⟨106,[.v a5],[a5],rW⟩
theorem Es:aA E M6:=
 .q (ak sK aH) (.k [0] .l) func106 call106 [(2,a5)]
def PU:aB:=⟨292,[.v b0,.v ed],[b0,ed],zo⟩
theorem XE:aA E PU:=
 .q (ak j3 aH) (.k [0,1] (.n (.n (.n (.t .none (.n (.o (.p ⟨[ah 6,(7,.v bn),aT 8],[(6,br)]⟩ (.x 0 ⟨[ah 6,(7,.v bn)],[(6,br)]⟩) .l))) (.t .none (.z [6] .l) .l)))))) func292 call292 [(12,br)]
def PV:aB:=⟨293,[.v ed],[aK],r3⟩
theorem Kf:aA E PV:=
 .q (ak EC aH) (.k [0] .l) func293 call293
def PW:aB:=⟨294,[.w ed,.v b0],[ed],v9⟩
theorem XF:aA E PW:=
 .q aH (.k [1] (.n (.n (.t .none (.d [.b [0],.a,.b [0],.b [0],.a,.a,.b [0],.a,.a,.b [0],.b [0],.a,.a,.a]) (.n (.t .none (.o (.k [5] (.p ⟨[(0,.w 0),(7,.v bn),(8,.v bn)],[(0,br)]⟩ (.x 0 ⟨[(0,.w 0),(7,.v bn)],[(0,br)]⟩) (.t (.bk [7,8] ⟨[(0,.w 0)],[(0,br)]⟩) (.t .none (.d [.a,.a,.a,.a,.a,.a,.a,.a,.a,.a,.a,.a,.a,.b [0],.a,.a,.b [0],.b [0],.a,.a,.a,.a]) .l) .l)))) (.n (.t .none (.n (.o (.k [5,7,84,85] (.p ⟨[(0,.w 0),(9,.v bn),(10,.v bn),aT 86],[(0,br)]⟩ (.x 2 ⟨[(0,.w 0),(9,.v bn),(10,.v bn)],[(0,br)]⟩) .l)))) (.n (.n (.n (.n (.t .none (.n (.o (.k [5,7,140,141] (.p ⟨[(0,.w 0),(9,.v bn),aT 142],[(0,br)]⟩ (.x 4 ⟨[(0,.w 0),(9,.v bn)],[(0,br)]⟩) .l)))) .l))))))))))))) func294 call294
def PL:aB:=⟨280,[.v b0,.v b0],[b0,b0],wa⟩
theorem Ke:aA E PL:=
 .q (ak XF (ak Kf (ak XE (ak EF (ak EE (ak Bm (ak Bk (ak j3 aH)))))))) (.k [0,1] (.n (.n (.n (.n (.n (.n (.n (.n (.n (.t .none (.n (.o (.k [8,9,11] (.p ⟨[ah 4,ah 10,aT 12],[(4,br),(10,br)]⟩ (.x 0 ⟨[ah 4,ah 10],[(4,br),(10,br)]⟩) .l)))) (.t .none (.z [10] .l) (.t .none (.z [4] .l) .l))))))))))))) func280 call280 [(47,br),(59,br),(5,b0)] [(5,18),(33,32)]
def PK:aB:=⟨279,[.v b0],[b0],zn⟩
theorem Xw:aA E PK:=
 .q (ak Ke (ak EF (ak EE (ak Kb (ak Bm (ak Bl aH)))))) (.k [0] (.n (.n (.n (.o (.p ⟨[(3,.v b0)],[]⟩ .r .l)))))) func279 call279 [] [(16,11)]
def Pq:aB:=⟨257,[.v aZ],[aZ,aK],zl⟩
theorem Xj:aA E Pq:=
 .q (ak Xw (ak po (ak j3 (ak sL aH)))) (.k [0] .l) func257 call257 [(1,eD),(2,aZ)]
def Of:aB:=⟨175,[.v aZ,.v aZ],[aK],tR⟩
theorem EB:aA E Of:=
 .q (ak Bm (ak j3 (ak sL aH))) (.k [0,1] .l) func175 call175 [(2,eD),(3,eD)]
def OF:aB:=⟨207,[.v a5,.v aK],[k5],y2⟩
theorem WT:aA E OF:=
 .q (ak Xj (ak xz (ak EB (ak uR (ak JQ aH))))) (.k [0,1] (.n (.n (.t (.x [2] ⟨[ah 4,aT 5],[(4,(.optr k5))]⟩) .l (.n (.n (.t .none (.d [.b [226],.a,.a,.a,.a,.a,.b [226],.b [226],.a,.b [194],.a,.a,.a,.c [130] [128]]) .l))))))) func207 call207 [(2,hx),(4,k5),(6,aZ),(7,aZ)]
def Pl:aB:=⟨252,[.v k5],[aK],y0⟩
theorem Xf:aA E Pl:=
 .q (ak xz aH) (.k [0] .l) func252 call252 [(1,(.ptr .bA k5))]
def PT:aB:=⟨291,[.v aZ,.v aZ],[aZ],zm⟩
theorem XD:aA E PT:=
 .q (ak Bj aH) (.k [0,1] .l) func291 call291 [(2,eD),(4,aZ)]
def PJ:aB:=⟨278,[.v k5,.v aK],[aZ,aK,.bool],vR⟩
theorem Xv:aA E PJ:=
 .q (ak XD (ak J1 (ak xz (ak EB (ak uR (ak Bh (ak sL aH))))))) (.k [0,1] (.n (.n (.n (.n (.t .none (.d [.a,.a,.b [130],.a,.a,.a,.c [258] [256],.c [258] [256]]) (.t .none (.d [.b [258],.a,.a,.a,.a,.a,.a]) (.t (.x [2] ⟨[ah 4,aT 5,ah 8],[(4,dd),(8,dd)]⟩) .l (.t .none (.d [.b [130],.a,.b [258],.a,.a,.a,.a,.a,.a,.a,.c [130] [128],.a,.a]) .l))))))))) func278 call278 [(2,(.ptr .bA k5)),(4,aZ),(8,aZ)]
def Pn:aB:=⟨254,[.v k5,.v aK,.v aK],[aZ],y1⟩
theorem Xh:aA E Pn:=
 .q (ak Xv (ak J0 (ak uR (ak Bj (ak Ev (ak Bh (ak sL aH))))))) (.k [0,1,2] (.n (.n (.t (.x [3] ⟨[ah 6,ah 7,aT 8,(9,.v .bool)],[(6,dd),(7,dd)]⟩) .l (.n (.t (.x [3] ⟨[ah 6,ah 7,(10,.v .bool)],[(6,dd),(7,dd)]⟩) .l (.t (.x [3] ⟨[ah 6,ah 7],[(6,dd),(7,dd)]⟩) (.n (.t .none (.d [.b [226],.a,.a,.c [226] [224]]) .l)) (.t (.x [] ⟨[ah 6,ah 7],[(6,dd),(7,dd)]⟩) .l .l)))))))) func254 call254 [(3,(.ptr .bA k5)),(6,aZ),(7,aZ)]
def Ob:aB:=⟨171,[.v aZ],[aZ],rY⟩
theorem EA:aA E Ob:=
 .q (ak Bk (ak po aH)) (.k [0] .l) func171 call171 [(1,eD),(2,aZ)] [(6,5)]
def Pm:aB:=⟨253,[.v aZ],[aK,.bool],zj⟩
theorem Xg:aA E Pm:=
 .q (ak j3 aH) (.k [0] (.n (.n (.n (.n (.t .none (.n (.o (.k [1,14,15] (.p ⟨[(5,.v bn),aT 16],[]⟩ (.x 0 ⟨[(5,.v bn)],[]⟩) .l)))) (.t (.bk [] ⟨[],[]⟩) (.o (.t (.x [1,5] ⟨[(29,.v .bool)],[]⟩) .l (.n (.t (.x [5] ⟨[(45,.v .bool)],[]⟩) .l .l)))) .l))))))) func253 call253 [(1,eD)]
def Po:aB:=⟨255,[.v bn,.v .bool],[bn],rX⟩
theorem J8:aA E Po:=
 .q aH (.k [0,1] .l) func255 call255
def Pp:aB:=⟨256,[.v .bool,.v aK],[bn],zb⟩
theorem Xi:aA E Pp:=
 .q (ak J8 aH) (.k [0,1] (.n (.t (.bk [] ⟨[],[]⟩) (.t (.x [] ⟨[(21,.v .bool)],[]⟩) .l .l) .l))) func256 call256
def OE:aB:=⟨206,[.v k5,.v aK],[bn],vV⟩
theorem JY:aA E OE:=
 .q (ak Xi (ak J8 (ak Xh (ak Xg (ak Xf (ak EA aH)))))) (.k [0,1] (.n (.n (.n (.n (.t (.x [2] ⟨[aT 5,(8,.v bn)],[]⟩) .l .l)))))) func206 call206 [(2,(.ptr .bA k5))]
def Nq:aB:=⟨128,[.v a5,.v aK],[bn],y9⟩
theorem Wh:aA E Nq:=
 .q (ak Bn (ak WT (ak JY (ak Es aH)))) (.k [0,1] (.n (.n (.t (.bk [] ⟨[ah 2],[(2,dq)]⟩) (.o (.t (.x [] ⟨[ah 2,(7,.v .bool)],[(2,dq)]⟩) .l .l)) .l)))) func128 call128
def Nr:aB:=⟨129,[.v bn],[aK],y7⟩
theorem Wi:aA E Nr:=
 .q (ak Eu aH) (.k [0] (.n (.n (.t .none (.o (.t (.x [3,4] ⟨[(10,.v .bool)],[]⟩) .l .l)) .l)))) func129 call129
def Pr:aB:=⟨258,[.v aZ,.v aZ],[aZ,aZ,aK],zi⟩
theorem Xk:aA E Pr:=
 .q (ak Ke (ak J3 (ak Bl (ak po (ak j3 aH))))) (.k [0,1] (.n (.n (.n (.n (.t (.x [2,3] ⟨[ah 4,ah 5,(8,.v b0),(9,.v b0)],[(4,dd),(5,dd)]⟩) (.t (.x [7,8,9] ⟨[ah 4,ah 5,(32,.v .bool)],[(4,dd),(5,dd)]⟩) .l .l) .l)))))) func258 call258 [(2,eD),(3,eD),(4,aZ),(5,aZ)] [(35,34)]
def OG:aB:=⟨208,[.v a5,.v a5,.v aK],[k5],yZ⟩
theorem WU:aA E OG:=
 .q (ak Xk (ak xz (ak EA (ak uR (ak sL aH))))) (.k [0,1,2] (.n (.n (.t .none (.d [.a,.a,.a,.a,.a,.a,.a,.a,.a,.a,.a,.a,.a,.c [258] [256],.c [290] [288],.c [258] [256],.c [290] [288],.a]) (.t .none (.d [.a,.a,.a,.a,.a,.a,.a,.b [258],.a,.a,.a,.a,.a,.a,.a,.b [290],.a,.a,.a,.c [194] [192]]) .l))))) func208 call208 [(3,hx),(4,hx),(6,k5),(8,aZ),(9,aZ)]
def Nt:aB:=⟨130,[.v a5,.v a5,.v aK],[bn],y8⟩
theorem Wk:aA E Nt:=
 .q (ak Bn (ak WU (ak JY (ak Es aH)))) (.k [0,1,2] (.n (.t .none (.d [.b [98],.a,.b [130],.a,.c [98] [96],.c [130] [128]]) (.t (.bk [] ⟨[ah 3,ah 4],[(3,dq),(4,dq)]⟩) (.o (.t (.x [] ⟨[ah 3,ah 4,(11,.v .bool)],[(3,dq),(4,dq)]⟩) .l .l)) .l)))) func130 call130
def Qq:aB:=⟨57,[.m mT,.v yq,.v aK],[aK],yP⟩
theorem XX:aA E Qq:=
 .q (ak Bo (ak Bn (ak EJ (ak Wk (ak Wi (ak Wh (ak Wg aH))))))) (.k [1,2] (.n (.n (.n (.n (.n (.t .none (.d [.b [1],.b [2],.b [2,8],.b [8],.a,.b [1],.b [2],.b [2,12],.b [12],.a,.a,.c [1154] [1152],.c [1186] [1184],.a,.a,.a,.c [1186] [1184],.b [1185],.b [8,10],.c [1154,10] [0,1152,1153],.b [12,14],.c [1186,14] [0,1184,1185]]) (.n (.t .none (.n (.o (.k [8,54,55] (.p ⟨[ah 0,aT 56],[(0,mT)]⟩ (.bk 0 ⟨[ah 0],[(0,mT)]⟩) (.n (.n (.t .none (.o (.n (.n (.n (.d [.b [1],.b [2],.b [2,8],.b [8],.a,.b [1],.b [2],.b [2,12],.b [12],.a,.b [12,14],.b [14],.a,.b [1],.b [2],.b [2,8],.b [8],.a,.b [8,10],.b [10],.a,.c [2946] [2944],.c [2976,2946,10] [2976,3,9,13,15],.a,.a,.b [8,10],.c [2976,10] [0,2976,2977],.c [0,14] [0],.b [0],.c [0,14] [0]]))))) .l))))))) .l))))))))) func57 call57 [(7,a5),(37,(.mp a5))]
def Nu:aB:=⟨131,[.v eC],[c8],zz⟩
theorem Wl:aA E Nu:=
 .q aH (.k [0] .l) func131 call131 [(2,c8)]
def Qr:aB:=⟨58,[.v (.ptr .dN (.st (.pr (.a7 .dN eC) (.pr (.a7 .dN kj) (.pr (.a7 .dN (.dC .dN a5)) (.pr (.a7 .dN eC) .nil)))))),.v eC],[l9],yQ⟩
theorem XY:aA E Qr:=
 .q (ak Wl aH) (.k [0,1] (.n (.n (.t .none (.n (.o (.k [15] (.p ⟨[ah 4,ah 5,aT 16],[(4,hu),(5,hu)]⟩ (.x 0 ⟨[ah 4,ah 5],[(4,hu),(5,hu)]⟩) (.n (.n (.t .none (.o (.n (.t .none (.d [.b [162,172],.b [172],.a,.a,.a,.a,.a,.a,.a,.c [896,172,174] [896,163],.b [162,172],.c [896,172,174] [160,896,897]]) (.t .none (.d [.b [162,176],.b [176],.a,.a,.a,.a,.a,.a,.a,.c [1248,176,178] [1248,163],.b [162,176],.c [1248,176,178] [160,1248,1249]]) .l)))) .l))))))) .l)))) func58 call58 [(4,l9),(10,l9),(5,l9)]
def Ns:aB:=⟨13,[.v gy,.v eC],[tv,aK,aK],qc⟩
theorem Wj:aA E Ns:=
 .q (ak XY (ak XX (ak XW (ak Kq aH)))) (.k [0,1] (.n (.n (.n (.n (.t .none (.n (.o (.k [7,27] (.p ⟨[ah 4,ah 9,aT 28],[(4,Ge),(9,mT)]⟩ (.bk 0 ⟨[ah 4,ah 9],[(4,Ge),(9,mT)]⟩) .l)))) (.t .none (.d [.b [289],.a,.c [290,1538] [1536],.a,.a,.a,.a,.c [130,1538] [128,1536,1537],.a,.a]) .l))))))) func13 call13 [(2,ig),(4,tv)] [(999999,48)]
def Ox:aB:=⟨20,[.v eC,.v eC],[.bool],zK⟩
theorem WO:aA E Ox:=
 .q aH (.k [0,1] (.n (.n (.t .none (.n (.o (.p ⟨[aT 5],[]⟩ (.bk 0 ⟨[],[]⟩) .l))) .l)))) func20 call20
def Qm:aB:=⟨53,[.v kj,.v kj],[.bool],zJ⟩
theorem Kp:aA E Qm:=
 .q aH (.k [0,1] (.n (.n (.t .none (.n (.o (.p ⟨[aT 5],[]⟩ (.bk 0 ⟨[],[]⟩) .l))) .l)))) func53 call53
def Na:aB:=⟨11,[],[.bool],zM⟩
theorem V4:aA E Na:=
 .q (ak Kp (ak Ko (ak WO (ak Wj aH)))) .l func11 call11 [(4,tv)] [(17,11),(17,12),(17,16)]
def OI:aB:=⟨21,[.v aK,.v aK],[aK],qk⟩
theorem xy:aA E OI:=
 .q aH (.k [0,1] .l) func21 call21
def Qj:aB:=⟨50,[.v kj,.v aK],[bn],wh⟩
theorem Kn:aA E Qj:=
 .q (ak xy aH) (.k [0,1] (.n (.n (.t (.x [] ⟨[(5,.v bn)],[]⟩) .l .l)))) func50 call50
def QA:aB:=⟨67,[.v bn],[.bool],qo⟩
theorem xB:aA E QA:=
 .q aH (.k [0] .l) func67 call67
def N3:aB:=⟨164,[.v bn],[bn],CZ⟩
theorem Wy:aA E N3:=
 .q (ak Ko aH) (.k [0] .l) func164 call164
def Q4:aB:=⟨99,[.v bn,.v aK],[bn],zH⟩
theorem Yd:aA E Q4:=
 .q (ak xB (ak xy (ak Wy aH))) (.k [0,1] .l) func99 call99
def P7:aB:=⟨35,[.v kj,.v aK,.v aK,.v aK],[jh],tY⟩
theorem EH:aA E P7:=
 .q (ak Yd (ak Kn aH)) (.k [0,1,2,3] (.n (.n (.t .none (.n (.o (.p ⟨[ah 8,ah 9,aT 10],[(8,dD),(9,dD)]⟩ (.x 0 ⟨[ah 8,ah 9],[(8,dD),(9,dD)]⟩) (.n (.t .none (.o (.t .none (.n (.o (.k [10] (.p ⟨[ah 8,ah 9,aT 11],[(8,dD),(9,dD)]⟩ (.x 2 ⟨[ah 8,ah 9],[(8,dD),(9,dD)]⟩) (.n (.t (.x [11] ⟨[ah 8,ah 9],[(8,dD),(9,dD)]⟩) (.o (.n (.n (.t .none (.n (.d [.b [290,308],.b [308],.a,.a,.a,.c [1602] [1600],.c [1632,1602,308,310] [1632,291],.b [290,308],.c [1632,308,310] [288,1632,1633]])) .l)))) .l)))))) .l)) .l))))) .l)))) func35 call35 [(8,jh),(16,jh),(9,jh)]
def Ny:aB:=⟨135,[.v kj],[.bool],z7⟩
theorem Wo:aA E Ny:=
 .q (ak xB aH) (.k [0] (.n (.t .none (.n (.o (.p ⟨[aT 3],[]⟩ (.bk 0 ⟨[],[]⟩) .l))) .l))) func135 call135
def QB:aB:=⟨68,[.v gy],[aK],o4⟩
theorem xC:aA E QB:=
 .q (ak Wo aH) (.k [0] (.n (.t (.bk [1] ⟨[],[]⟩) .l (.n (.t (.bk [1] ⟨[],[]⟩) .l (.t .none (.n (.o (.k [1] (.p ⟨[aT 4],[]⟩ (.bk 0 ⟨[],[]⟩) .l)))) (.t .none (.n (.o (.k [1] (.p ⟨[aT 5],[]⟩ (.bk 2 ⟨[],[]⟩) (.n (.t .none (.o (.n (.o (.k [5] (.p ⟨[aT 6],[]⟩ (.bk 4 ⟨[],[]⟩) (.n (.t (.bk [6] ⟨[],[]⟩) .l .l))))))) .l)))))) .l))))))) func68 call68 [(1,ig)]
def Ph:aB:=⟨25,[.v gy,.v aK,.v aK],[bn],qp⟩
theorem J7:aA E Ph:=
 .q (ak xC aH) (.k [0,1,2] (.n (.t (.bk [3] ⟨[],[]⟩) .l (.t .none (.n (.o (.k [3] (.p ⟨[aT 7],[]⟩ (.bk 0 ⟨[],[]⟩) .l)))) .l)))) func25 call25 [(3,ig)]
def QU:aB:=⟨89,[.v bn],[.bool],z2⟩
theorem Yb:aA E QU:=
 .q aH (.k [0] .l) func89 call89
def O8:aB:=⟨24,[.v bn],[a5],o2⟩
theorem xA:aA E O8:=
 .q (ak Yb (ak q3 (ak uS (ak xB aH)))) (.k [0] (.n (.n (.n (.n (.t (.x [] ⟨[ah 2,(4,.v bn),aT 5],[(2,dq)]⟩) .l .l)))))) func24 call24 [(2,a5)] [(30,29)]
def P0:aB:=⟨30,[.v a5],[a5],wu⟩
theorem Kg:aA E P0:=
 .q (ak xD (ak ni (ak q3 aH))) (.k [0] (.n (.n (.n (.t .none (.d [.b [34,40],.b [40],.a,.b [34,44],.b [44],.a,.c [66] [64]]) .l))))) func30 call30 [(2,a5)]
def PS:aB:=⟨29,[.v (.a7 .dN a5)],[a5],ue⟩
theorem EG:aA E PS:=
 .q (ak sN (ak uT (ak nj (ak ni (ak q3 (ak uS aH)))))) (.k [0] (.n (.n (.t .none (.n (.o (.p ⟨[ah 2,ah 3,aT 4,aT 5],[(2,dq),(3,dd)]⟩ (.bk 0 ⟨[ah 2,ah 3,aT 4],[(2,dq),(3,dd)]⟩) (.n (.t (.bk [5] ⟨[ah 2,ah 3,aT 4],[(2,dq),(3,dd)]⟩) (.o (.n (.n (.n (.o (.n (.t .none (.d [.b [194,200],.b [200],.b [194,204],.b [204],.c [98] [96],.a]) (.n (.t .none (.d [.b [98],.b [194,200],.b [200],.b [194,204],.b [204],.a,.a,.a,.a,.c [98] [96]]) (.d [.b [98],.a,.b [194,204],.b [204],.a,.a,.b [194,200],.b [200],.a,.b [194,204],.b [204],.c [98] [96],.a])))))))))) .l))))) .l)))) func29 call29 [(2,a5),(3,aZ),(6,a5)]
def Ni:aB:=⟨120,[.v gy,.v aK,.v aK],[.bool],wA⟩
theorem Wa:aA E Ni:=
 .q aH (.k [0,1,2] (.n (.t (.bk [3] ⟨[],[]⟩) .l (.t .none (.n (.o (.k [3] (.p ⟨[aT 7],[]⟩ (.bk 0 ⟨[],[]⟩) .l)))) .l)))) func120 call120 [(3,ig)]
def Qn:aB:=⟨54,[.v kj,.v aK,.v aK],[jh],zG⟩
theorem XV:aA E Qn:=
 .q (ak Kz (ak EH (ak Kg (ak EG (ak J7 (ak xA (ak xy (ak Wa (ak JI aH))))))))) (.k [0,1,2] (.n (.n (.n (.t .none (.n (.o (.p ⟨[ah 6,ah 7,ah 8,aT 9],[(6,dD),(7,dD),(8,dD)]⟩ (.x 0 ⟨[ah 6,ah 8],[(6,dD),(8,dD)]⟩) (.n (.t .none (.o (.t .none (.n (.o (.k [9] (.p ⟨[ah 6,ah 7,ah 8,aT 10],[(6,dD),(7,dD),(8,dD)]⟩ (.x 2 ⟨[ah 6,ah 7,ah 8],[(6,dD),(7,dD),(8,dD)]⟩) (.n (.t (.x [10] ⟨[ah 6,ah 7,ah 8],[(6,dD),(7,dD),(8,dD)]⟩) (.o (.n (.t .none (.n (.t .none (.n (.o (.p ⟨[ah 6,ah 7,ah 8,ah 11,aT 12],[(6,dD),(7,dD),(8,dD),(11,hd)]⟩ (.x 4 ⟨[ah 6,ah 7,ah 8,ah 11],[(6,dD),(7,dD),(8,dD),(11,hd)]⟩) (.n (.t (.x [12] ⟨[ah 6,ah 7,ah 8,ah 11],[(6,dD),(7,dD),(8,dD),(11,hd)]⟩) .l .l))))) (.n (.d [.b [258,276],.b [276],.b [353],.b [354],.a,.c [2242] [2240],.c [2272,2242,276,278] [2272,259],.b [258,276],.c [2272,276,278] [256,2272,2273]])))) (.n (.t .none (.n (.d [.b [258,276],.b [276],.b [224,226],.a,.a,.b [224],.c [2850] [2848],.c [2880,2850,276,278] [2880,259],.b [258,276],.c [2880,276,278] [256,2880,2881]])) .l))))) .l)))))) .l)) .l))))) .l))))) func54 call54 [(6,jh),(7,jh),(22,jh),(8,jh)]
def Qk:aB:=⟨51,[.v kj,.v aK],[fU],we⟩
theorem XU:aA E Qk:=
 .q (ak Kn (ak xy aH)) (.k [0,1] (.n (.n (.t .none (.n (.o (.p ⟨[(5,.v fU),aT 6],[]⟩ (.x 0 ⟨[(5,.v fU)],[]⟩) (.n (.t .none (.o (.n (.d [.c [738] [736],.a,.a,.a,.c [738,866] [736,864,737,865],.a,.c [930] [928],.c [866,930,962] [864,960,865,961],.a,.a,.a,.c [962,1090] [960,1088,961,1089],.c [1090] [1088,1089]]))) .l))))) .l)))) func51 call51 [(5,fU)] [(5,8),(5,34)]
def Nh:aB:=⟨12,[.v kj,.v aK,.v aK,.v .bool],[jK,fU],zN⟩
theorem V9:aA E Nh:=
 .q (ak XV (ak XU (ak EH (ak xy aH)))) (.k [0,2,3] .l) func12 call12 [(8,jK)] [(999999,16),(999999,24)]
def Nv:aB:=⟨132,[.v eC,.v aK],[.bool],wL⟩
theorem JJ:aA E Nv:=
 .q aH (.k [0,1] (.n (.n (.n (.t .none (.n (.o (.p ⟨[ah 5,aT 6],[(5,fE)]⟩ (.bk 0 ⟨[],[]⟩) (.n (.t (.bk [6] ⟨[ah 5],[(5,fE)]⟩) (.o (.t (.bk [] ⟨[ah 5],[(5,fE)]⟩) .l .l)) .l))))) .l))))) func132 call132 [(12,fE)]
def Qs:aB:=⟨59,[.v gy,.v eC],[aK],wM⟩
theorem Kr:aA E Qs:=
 .q (ak xC (ak JJ aH)) (.k [0,1] .l) func59 call59 [(2,ig)]
def QC:aB:=⟨69,[.v gy],[eE],wz⟩
theorem Kv:aA E QC:=
 .q (ak xC aH) (.k [0] (.n (.n (.n (.t .none (.n (.o (.k [1] (.p ⟨[ah 3,aT 4],[(3,eE)]⟩ (.x 0 ⟨[ah 3],[(3,eE)]⟩) (.n (.t .none (.o (.n (.o (.k [4] (.p ⟨[ah 3,aT 5],[(3,eE)]⟩ (.x 2 ⟨[ah 3],[(3,eE)]⟩) (.n (.t .none (.o (.d [.b [97],.a,.a,.a,.a,.a,.a,.a,.a,.a,.a,.a,.a,.c [1378] [1376],.c [98,1378,1410] [96,1408,97,1409],.c [98,1410] [96,1408,97,1409]])) .l))))))) .l)))))) .l))))) func69 call69 [(1,ig),(3,eE),(2,eE)]
def QD:aB:=⟨70,[.v aK,.v aK,.v (.a7 .dN ki)],[jh],z9⟩
theorem X4:aA E QD:=
 .q aH (.k [0,1,2] (.n (.n (.n (.t .none (.n (.o (.p ⟨[ah 6,ah 7,ah 8,aT 9],[(6,dD),(7,dD),(8,c8)]⟩ (.x 0 ⟨[ah 6,ah 7,ah 8],[(6,dD),(7,dD),(8,c8)]⟩) (.n (.t .none (.o (.d [.b [257],.a,.a,.a,.a,.a,.a,.a,.a,.a,.a,.a,.a,.a,.a,.a,.b [256,258],.c [256] [256]])) .l))))) (.t .none (.n (.o (.p ⟨[ah 6,ah 7,ah 8,aT 10],[(6,dD),(7,dD),(8,c8)]⟩ (.x 2 ⟨[ah 6,ah 7],[(6,dD),(7,dD)]⟩) (.n (.t .none (.o (.t .none (.n (.o (.k [10] (.p ⟨[ah 6,ah 7,ah 8,aT 11],[(6,dD),(7,dD),(8,c8)]⟩ (.x 4 ⟨[ah 6,ah 7,ah 8],[(6,dD),(7,dD),(8,c8)]⟩) (.n (.t (.x [11] ⟨[ah 6,ah 7,ah 8],[(6,dD),(7,dD),(8,c8)]⟩) (.o (.n (.n (.t .none (.n (.d [.b [226,244],.b [244],.a,.a,.a,.a,.a,.a,.c [2498] [2496],.c [2528,2498,244,246] [2528,227],.b [226,244],.c [2528,244,246] [224,2528,2529]])) .l)))) .l)))))) .l)) .l))))) .l)))))) func70 call70 [(6,jh),(16,jh),(7,jh),(20,c8)]
def NY:aB:=⟨16,[.v gy],[jK,aK],z8⟩
theorem Wx:aA E NY:=
 .q (ak X4 (ak Kv (ak xC aH))) (.k [0] (.n (.n (.n (.n (.t .none (.n (.o (.k [1,6] (.p ⟨[ah 2,ah 5,aT 7],[(2,(.optr jK)),(5,eE)]⟩ (.x 0 ⟨[ah 2,ah 5],[(2,(.optr jK)),(5,eE)]⟩) (.n (.t (.x [7] ⟨[ah 2,ah 5],[(2,(.optr jK)),(5,eE)]⟩) .l .l)))))) .l)))))) func16 call16 [(1,ig),(2,jK),(6,(.a7 .bA ki)),(5,eE)] [(6,15),(999999,45)]
def QE:aB:=⟨71,[.v aK],[fS],wE⟩
theorem Kw:aA E QE:=
 .q aH (.k [0] (.n (.n (.t .none (.n (.o (.p ⟨[ah 3,aT 4],[(3,fS)]⟩ (.x 0 ⟨[ah 3],[(3,fS)]⟩) .l))) .l)))) func71 call71 [(3,fS),(12,fE),(13,fS)]
def QF:aB:=⟨72,[.v (.a7 .dN (.a7 .dN .bool))],[hY],wB⟩
theorem Kx:aA E QF:=
 .q aH (.k [0] (.n (.n (.t .none (.n (.o (.p ⟨[ah 2,ah 3,aT 4],[(2,(.optr hY)),(3,(.optr hY))]⟩ (.x 0 ⟨[ah 2,ah 3],[(2,(.optr hY)),(3,(.optr hY))]⟩) (.n (.t .none (.o (.n (.t .none (.n (.o (.k [4] (.p ⟨[ah 2,ah 3,ah 5,aT 6],[(2,(.optr hY)),(3,(.optr hY)),(5,c8)]⟩ (.x 2 ⟨[ah 2,ah 3,ah 5],[(2,(.optr hY)),(3,(.optr hY)),(5,c8)]⟩) (.n (.t (.x [6] ⟨[ah 2,ah 3,ah 5],[(2,(.optr hY)),(3,(.optr hY)),(5,c8)]⟩) (.o (.t (.x [] ⟨[ah 2,ah 3,ah 5,(39,.v .bool)],[(2,(.optr hY)),(3,(.optr hY)),(5,c8)]⟩) .l .l)) .l)))))) (.z [5] .l)))) .l))))) .l)))) func72 call72 [(2,hY),(3,hY),(5,c8)]
def N9:aB:=⟨17,[.v gy],[fi,aK],Ac⟩
theorem WA:aA E N9:=
 .q (ak Kx (ak Kw (ak Kv (ak xC aH)))) (.k [0] (.n (.n (.n (.n (.n (.t .none (.n (.o (.k [6] (.p ⟨[ah 2,ah 5,aT 7],[(2,(.optr fi)),(5,fS)]⟩ (.x 0 ⟨[ah 2,ah 5],[(2,(.optr fi)),(5,fS)]⟩) (.n (.t .none (.o (.d [.b [161],.a,.a,.a,.a,.a,.b [160,162],.b [160],.a,.a,.a,.a,.a,.b [160],.c [160] [160]])) .l)))))) .l))))))) func17 call17 [(1,ig),(2,fi),(6,(.a7 .bA ki))] [(6,24),(999999,46)]
def Nz:aB:=⟨136,[.v eC],[.bool],zI⟩
theorem Wp:aA E Nz:=
 .q aH (.k [0] (.n (.t .none (.n (.o (.p ⟨[aT 3],[]⟩ (.bk 0 ⟨[],[]⟩) .l))) .l))) func136 call136
def NA:aB:=⟨137,[.v eC,.v aK],[.bool],wi⟩
theorem JK:aA E NA:=
 .q aH (.k [0,1] (.n (.t .none (.n (.o (.p ⟨[aT 5],[]⟩ (.bk 0 ⟨[],[]⟩) .l))) .l))) func137 call137
def QG:aB:=⟨73,[.v jJ],[aK],uh⟩
theorem EI:aA E QG:=
 .q (ak JK (ak Wp aH)) (.k [0] (.n (.n (.n (.t .none (.n (.o (.k [1,3] (.p ⟨[aT 4],[]⟩ (.bk 0 ⟨[],[]⟩) (.n (.t .none (.o (.n (.n (.o (.k [4] (.p ⟨[aT 5],[]⟩ (.bk 2 ⟨[],[]⟩) (.n (.t (.bk [5] ⟨[],[]⟩) .l .l)))))))) .l)))))) .l))))) func73 call73 [(1,ji)]
def QH:aB:=⟨74,[.v eC,.v aK],[.bool],zL⟩
theorem X5:aA E QH:=
 .q aH (.k [0,1] (.n (.n (.n (.t .none (.n (.o (.p ⟨[ah 5,aT 6],[(5,fE)]⟩ (.bk 0 ⟨[],[]⟩) (.n (.t (.bk [6] ⟨[ah 5],[(5,fE)]⟩) (.o (.t (.bk [] ⟨[ah 5],[(5,fE)]⟩) .l .l)) .l))))) .l))))) func74 call74 [(12,fE)]
def NB:aB:=⟨138,[.v eC,.v aK],[.bool],Aa⟩
theorem Wq:aA E NB:=
 .q aH (.k [0,1] (.n (.t .none (.n (.o (.p ⟨[aT 5],[]⟩ (.bk 0 ⟨[],[]⟩) (.n (.t (.bk [5] ⟨[],[]⟩) .l .l))))) .l))) func138 call138
def NC:aB:=⟨139,[.v eC],[.bool],Ab⟩
theorem Wr:aA E NC:=
 .q (ak JK aH) (.k [0] (.n (.t .none (.n (.o (.p ⟨[aT 3],[]⟩ (.bk 0 ⟨[],[]⟩) .l))) .l))) func139 call139
def NE:aB:=⟨140,[.v jJ],[fS],wD⟩
theorem JL:aA E NE:=
 .q aH (.k [0] (.n (.n (.n (.t .none (.n (.o (.k [1,3] (.p ⟨[ah 4,aT 5],[(4,fS)]⟩ (.x 0 ⟨[ah 4],[(4,fS)]⟩) (.n (.t .none (.o (.n (.t .none (.n (.o (.k [5] (.p ⟨[ah 4,ah 6,aT 7],[(4,fS),(6,fE)]⟩ (.x 2 ⟨[ah 4,ah 6],[(4,fS),(6,fE)]⟩) .l)))) .l))) .l)))))) .l))))) func140 call140 [(1,ji),(4,fS),(17,fE),(40,fS)]
def QI:aB:=⟨75,[.v jJ,.v eC],[fi,aK],Ad⟩
theorem X6:aA E QI:=
 .q (ak EI (ak Kx (ak Kw (ak JL (ak Wr (ak Wq aH)))))) (.k [0,1] (.n (.n (.n (.n (.n (.n (.t .none (.n (.o (.k [7] (.p ⟨[ah 4,ah 8,aT 9],[(4,(.optr fi)),(8,fS)]⟩ (.x 0 ⟨[ah 4,ah 8],[(4,(.optr fi)),(8,fS)]⟩) (.n (.t .none (.o (.n (.o (.k [9] (.p ⟨[ah 4,ah 8,aT 10],[(4,(.optr fi)),(8,fS)]⟩ (.x 2 ⟨[ah 4,ah 8],[(4,(.optr fi)),(8,fS)]⟩) (.n (.t .none (.o (.d [.b [257],.a,.b [256,258],.b [256],.a,.a,.a,.a,.a,.a,.a,.a,.a,.a,.a,.a,.a,.a,.b [256],.c [256] [256]])) .l))))))) .l)))))) .l)))))))) func75 call75 [(2,ji),(4,fi),(7,(.a7 .bA (.a7 .bA .bool)))] [(7,28),(999999,64)]
def Oj:aB:=⟨18,[.v jJ,.v eC],[fi,aK],wC⟩
theorem WE:aA E Oj:=
 .q (ak X6 (ak X5 (ak EI aH))) (.k [0,1] .l) func18 call18 [(2,ji),(4,fi)]
def Qt:aB:=⟨60,[.v gy,.v eC],[fi],Ai⟩
theorem XZ:aA E Qt:=
 .q (ak WE (ak WA (ak Wx aH))) (.k [0,1] .l) func60 call60 [(2,ig),(4,fi),(5,jK),(7,fi),(9,fi)]
def QJ:aB:=⟨76,[.v jJ],[pZ],Ae⟩
theorem X7:aA E QJ:=
 .q (ak JL aH) (.k [0] (.n (.t .none (.d [.a,.c [130] [128],.a,.a,.a,.c [258] [256],.c [130,258,290] [128,256,288,129,257],.c [290,322] [288,320,289],.c [66,322] [64,320,65,321]]) .l))) func76 call76 [(1,ji),(8,fE)]
def QK:aB:=⟨77,[.v (.ptr .dN (.st (.pr (.a7 .dN (.a7 .dN .bool)) (.pr (.a7 .dN .bool) .nil)))),.v aK],[c8],wG⟩
theorem Ky:aA E QK:=
 .q aH (.k [0,1] (.n (.n (.t .none (.n (.o (.p ⟨[ah 5,aT 6],[(5,c8)]⟩ (.x 0 ⟨[ah 5],[(5,c8)]⟩) (.n (.t (.x [6] ⟨[ah 5],[(5,c8)]⟩) (.o (.t (.x [] ⟨[ah 5,(35,.v .bool)],[(5,c8)]⟩) .l .l)) .l))))) .l)))) func77 call77 [(5,c8)]
def QL:aB:=⟨78,[.m pZ,.v aK],[],wF⟩
theorem X8:aA E QL:=
 .q (ak Ky aH) (.k [1] (.n (.t .none (.n (.o (.k [4] (.p ⟨[ah 0,aT 5],[(0,pZ)]⟩ (.x 0 ⟨[ah 0],[(0,pZ)]⟩) (.n (.t .none (.o (.n (.o (.k [5] (.p ⟨[ah 0,aT 6],[(0,pZ)]⟩ (.x 2 ⟨[ah 0],[(0,pZ)]⟩) (.n (.t (.x [6] ⟨[ah 0],[(0,pZ)]⟩) (.o (.n (.t .none (.d [.b [1],.b [2],.b [2,4],.b [4],.a,.a,.a,.a,.b [4,6],.b [6],.a,.a,.a,.a,.b [6],.c [6] [0]]) .l))) .l))))))) .l)))))) .l))) func78 call78 [(4,fU)] [(4,9)]
def Ol:aB:=⟨19,[.v jJ],[(.osl fU),aK],Af⟩
theorem WG:aA E Ol:=
 .q (ak X8 (ak Ky (ak X7 (ak EI aH)))) (.k [0] (.n (.n (.n (.n (.t .none (.n (.o (.k [1] (.p ⟨[ah 5,ah 6,aT 7],[(5,pZ),(6,(.osl fU))]⟩ (.x 0 ⟨[ah 6],[(6,(.osl fU))]⟩) .l)))) .l)))))) func19 call19 [(1,ji),(6,(.osl fU)),(2,(.osl fU))] [(29,28)]
def Qu:aB:=⟨61,[.v gy,.v eC,.v aK,.v aK],[a5],wK⟩
theorem Ks:aA E Qu:=
 .q (ak J7 (ak xA aH)) (.k [0,1,2,3] .l) func61 call61 [(4,ig),(8,a5)]
def NS:aB:=⟨154,[.v b0,.v b0],[br],zS⟩
theorem Wu:aA E NS:=
 .q aH (.k [0,1] (.n (.n (.t .none (.n (.o (.p ⟨[ah 5,aT 6],[(5,br)]⟩ (.x 0 ⟨[ah 5],[(5,br)]⟩) (.n (.t .none (.o (.n (.t .none (.n (.o (.k [6] (.p ⟨[ah 5,(7,.v bn),aT 8],[(5,br)]⟩ (.x 2 ⟨[ah 5,(7,.v bn)],[(5,br)]⟩) (.n (.t .none (.o (.t .none (.d [.a,.a,.a,.a,.a,.a,.a,.a,.a,.a,.a,.a,.a,.b [161],.a,.a,.a,.b [160,162],.b [160],.a,.a,.a]) .l)) .l)))))) .l))) .l))))) .l)))) func154 call154 [(14,br)]
def QX:aB:=⟨92,[.v aZ,.v aZ],[aZ],wl⟩
theorem KB:aA E QX:=
 .q (ak sM (ak Wu (ak q2 aH))) (.k [0,1] (.n (.t .none (.d [.a,.a,.a,.a,.a,.a,.a,.c [386] [384],.a,.a,.c [482] [480],.c [386,482,514] [384,480,512,385,481],.c [514] [512,513],.c [130] [128]]) .l))) func92 call92 [(2,eD),(3,eD),(4,aZ)] [(16,12),(16,15),(17,16)]
def PD:aB:=⟨27,[.v a5,.v a5],[a5],zW⟩
theorem Xp:aA E PD:=
 .q (ak KB (ak ni (ak q3 (ak uS aH)))) (.k [0,1] (.n (.t .none (.d [.b [66],.a,.b [98],.a,.c [66] [64],.c [98] [96]]) (.t (.bk [] ⟨[ah 2,ah 3,ah 4],[(2,dq),(3,dq),(4,dq)]⟩) (.t (.x [] ⟨[ah 2,ah 3,ah 4,(14,.v .bool)],[(2,dq),(3,dq),(4,dq)]⟩) .l .l) (.t .none (.d [.b [66,72],.b [72],.b [98,104],.b [104],.a,.b [66,76],.b [76],.b [98,108],.b [108],.a,.a,.c [130] [128]]) .l))))) func27 call27 [(4,a5)]
def Qv:aB:=⟨62,[.v bn,.v bn],[a5],ui⟩
theorem Kt:aA E Qv:=
 .q (ak Xp (ak xA aH)) (.k [0,1] .l) func62 call62 [(4,a5)]
def Pt:aB:=⟨26,[.v a5],[a5],ud⟩
theorem J9:aA E Pt:=
 .q (ak KA (ak ni (ak q3 aH))) (.k [0] (.n (.n (.n (.t .none (.d [.b [34,40],.b [40],.a,.b [34,44],.b [44],.a,.c [66] [64]]) .l))))) func26 call26 [(2,a5)]
def PX:aB:=⟨295,[.m br,.v b0,.v aK,.v bn],[.bool],ws⟩
theorem XG:aA E PX:=
 .q aH (.k [1,2,3] (.n (.n (.n (.n (.t .none (.n (.o (.k [9] (.p ⟨[ah 0,ah 10,(11,.v bn),(12,.v bn),aT 13],[(0,br),(10,br)]⟩ (.x 0 ⟨[ah 0,ah 10,(11,.v bn)],[(0,br),(10,br)]⟩) (.n (.t (.x [13] ⟨[ah 0,ah 10,(11,.v bn),(12,.v bn)],[(0,br),(10,br)]⟩) (.o (.t (.x [11] ⟨[ah 0,ah 10,(12,.v bn)],[(0,br),(10,br)]⟩) .l .l)) .l)))))) (.n (.t .none (.n (.o (.k [9] (.p ⟨[ah 0,ah 10,aT 15],[(0,br),(10,br)]⟩ (.x 2 ⟨[ah 0],[(0,br)]⟩) .l)))) .l)))))))) func295 call295 [(20,br)]
def PM:aB:=⟨281,[.v b0,.v b0],[br,b0],zR⟩
theorem Xx:aA E PM:=
 .q (ak XG (ak Kf (ak Ew (ak JP (ak JO (ak sM aH)))))) (.k [0,1] (.n (.n (.n (.n (.t .none (.d [.a,.a,.c [994] [992],.a,.a,.c [1090] [1088],.a,.b [1088,1090],.c [258,994] [256,992,257,993],.c [1088,290] [288,1088,289,1089]]) (.t (.x [6,7] ⟨[ah 8,(9,.v b0)],[(8,br)]⟩) (.t .none (.z [9] .l) .l) (.n (.t .none (.n (.o (.k [6,7,9] (.p ⟨[ah 8,ah 10,aT 11],[(8,br),(10,br)]⟩ (.x 0 ⟨[ah 8,ah 10],[(8,br),(10,br)]⟩) (.n (.t .none (.o (.t .none (.d [.b [257],.a,.a,.a,.b [256,258],.b [256],.a,.a,.b [257],.a,.a,.a,.a,.b [256,258],.b [256],.a,.a,.a]) (.n (.t .none (.o (.k [11] (.p ⟨[ah 8,ah 10,(13,.v bn)],[(8,br),(10,br)]⟩ (.x 2 ⟨[ah 8,ah 10,(13,.v bn)],[(8,br),(10,br)]⟩) .l))) .l)))) .l)))))) (.t .none (.z [8] .l) (.t .none (.z [10] .l) .l))))))))))) func281 call281 [(50,br),(14,b0),(5,b0),(4,br)] [(5,108),(14,103000),(102,100)]
def Pu:aB:=⟨260,[.v aZ,.v aZ],[aZ,aZ],wj⟩
theorem Ka:aA E Pu:=
 .q (ak xD (ak uT (ak nj (ak Xx (ak xx (ak Ex (ak q2 (ak xv aH)))))))) (.k [0,1] (.n (.t .none (.d [.b [66],.a,.b [98],.a,.c [66] [64],.c [98] [96]]) (.n (.t .none (.d [.b [66,68],.b [68],.b [98,100],.b [100],.a,.a,.a,.b [66,68],.b [68],.a,.a,.c [258] [256],.c [290] [288],.c [258] [256],.c [290] [288]]) (.t (.x [] ⟨[ah 4,ah 5,ah 8,ah 9],[(4,dd),(5,dd),(8,dd),(9,dd)]⟩) (.n (.t .none (.t .none (.d [.b [290],.b [98],.a,.a,.c [290] [288]]) (.n (.t .none (.d [.b [258],.a,.a,.c [258] [256]]) (.d [.b [258],.a,.a,.c [258] [256]])))) .l)) (.t .none (.d [.b [258],.b [290],.c [130] [128],.c [162] [160]]) .l))))))) func260 call260 [(4,aZ),(5,aZ),(6,b0),(8,aZ),(9,aZ)] [(6,20000)]
def N2:aB:=⟨163,[.v aZ,.v aZ],[aK],tZ⟩
theorem Ey:aA E N2:=
 .q (ak nj (ak Ex aH)) (.k [0,1] .l) func163 call163 [(2,eD),(3,eD)]
def Ps:aB:=⟨259,[.v aZ],[aZ],zP⟩
theorem Xl:aA E Ps:=
 .q (ak sN (ak uT (ak nj (ak Ka (ak Ey (ak xx (ak xw aH))))))) (.k [0] (.n (.n (.t .none (.d [.a,.a,.a,.a,.a,.a,.c [98] [96],.c [98] [96]]) (.o (.k [1] (.p ⟨[ah 2,ah 3],[(2,dd),(3,dd)]⟩ .r .l))))))) func259 call259 [(1,eD),(2,aZ),(3,aZ),(4,aZ),(5,aZ),(6,aZ)]
def OH:aB:=⟨209,[.v aZ,.v aK,.v aK],[aZ,aK,.bool],zY⟩
theorem WV:aA E OH:=
 .q (ak sN (ak KB (ak Xl (ak Ey (ak xw aH))))) (.k [0,1,2] (.n (.n (.t (.x [3] ⟨[ah 6,aT 9],[(6,dd)]⟩) .l (.n (.n (.t .none (.d [.b [194],.a,.a,.a,.a,.b [194],.b [194],.a,.b [322],.a,.a,.c [194] [192],.a,.a]) .l))))))) func209 call209 [(3,eD),(6,aZ),(10,aZ)]
def Nw:aB:=⟨133,[.v a5,.v aK],[bn],z6⟩
theorem Wm:aA E Nw:=
 .q (ak nj (ak ni (ak WV (ak Et aH)))) (.k [0,1] (.n (.n (.t (.bk [] ⟨[ah 2],[(2,dq)]⟩) .l .l)))) func133 call133 [(5,aZ)]
def Qw:aB:=⟨63,[.v a5],[bn],wJ⟩
theorem X0:aA E Qw:=
 .q (ak Wm aH) (.k [0] .l) func63 call63 [(1,hx)]
def Qx:aB:=⟨64,[.v a5],[aK],ww⟩
theorem Ku:aA E Qx:=
 .q (ak nj (ak ni aH)) (.k [0] .l) func64 call64
def Qy:aB:=⟨65,[.v bn],[.bool],Ag⟩
theorem X1:aA E Qy:=
 .q aH (.k [0] .l) func65 call65
def OJ:aB:=⟨210,[.v aZ,.v aZ,.v aK],[aZ,aK,.bool],zX⟩
theorem WW:aA E OJ:=
 .q (ak sN (ak nj (ak Ka (ak xw aH)))) (.k [0,1,2] (.n (.n (.t .none (.d [.a,.a,.a,.a,.a,.a,.a,.a,.c [322] [320],.c [194] [192],.c [322] [320]]) (.t .none (.d [.b [194],.a,.a,.b [322],.a,.a,.c [194] [192],.a,.a]) .l))))) func210 call210 [(3,eD),(4,eD),(6,aZ),(10,aZ)]
def Nx:aB:=⟨134,[.v a5,.v a5,.v aK],[bn],z5⟩
theorem Wn:aA E Nx:=
 .q (ak xD (ak nj (ak ni (ak WW (ak Et aH))))) (.k [0,1,2] (.n (.t .none (.d [.b [98],.a,.b [130],.a,.c [98] [96],.c [130] [128]]) (.t (.bk [] ⟨[ah 3,ah 4],[(3,dq),(4,dq)]⟩) .l (.n (.t .none (.d [.b [98,104],.b [104],.a,.b [130,136],.b [136],.a,.a,.a,.a,.a,.a,.c [226] [224],.c [226] [224],.a,.a]) .l)))))) func134 call134 [(7,aZ)]
def Qz:aB:=⟨66,[.v a5,.v a5],[bn],Ah⟩
theorem X2:aA E Qz:=
 .q (ak Wn aH) (.k [0,1] .l) func66 call66 [(2,hx),(3,hx)]
def ND:aB:=⟨14,[.v gy,.v eC],[l9,aK,aK],r9⟩
theorem Ws:aA E ND:=
 .q (ak xB (ak X2 (ak X1 (ak Ku (ak X0 (ak Kt (ak Ks (ak XZ (ak Kr (ak EG (ak J9 (ak xA (ak WG aH))))))))))))) (.k [0,1] (.n (.n (.n (.n (.n (.t .none (.n (.o (.k [2,8,9] (.p ⟨[ah 4,ah 11,aT 12],[(4,hu),(11,lD)]⟩ (.x 0 ⟨[ah 4,ah 11],[(4,hu),(11,lD)]⟩) .l)))) (.n (.t .none (.n (.o (.k [2,8,9] (.p ⟨[ah 4,ah 11,ah 13,aT 14],[(4,hu),(11,lD),(13,hu)]⟩ (.bk 2 ⟨[ah 4,ah 13],[(4,hu),(13,hu)]⟩) (.n (.t .none (.o (.t .none (.n (.o (.k [14] (.p ⟨[ah 4,ah 11,ah 13,aT 15],[(4,hu),(11,lD),(13,hu)]⟩ (.bk 4 ⟨[ah 4,ah 11,ah 13],[(4,hu),(11,lD),(13,hu)]⟩) (.n (.t (.bk [15] ⟨[ah 4,ah 11,ah 13],[(4,hu),(11,lD),(13,hu)]⟩) (.o (.n (.n (.t .none (.n (.o (.k [16] (.p ⟨[ah 4,ah 11,ah 13,ah 17,aT 18],[(4,hu),(11,lD),(13,hu),(17,hd)]⟩ (.x 6 ⟨[ah 4,ah 11,ah 13,ah 17],[(4,hu),(11,lD),(13,hu),(17,hd)]⟩) (.n (.t .none (.o (.d [.b [545],.b [353],.a,.b [352,354],.b [352],.a,.b [352],.b [352],.b [353],.a,.b [352,354],.b [352],.a,.b [352],.b [352],.a,.a,.c [3298] [3296],.c [546,3298,3330] [544,3328,545,3329],.c [546,3330] [544,3328,545,3329]])) .l)))))) (.n (.n (.t (.bk [16] ⟨[ah 4,ah 11,ah 13,(20,.v bn)],[(4,hu),(11,lD),(13,hu)]⟩) (.n (.t .none (.n (.t (.x [20] ⟨[ah 4,ah 11,ah 13,(118,.v .bool)],[(4,hu),(11,lD),(13,hu)]⟩) .l .l)) (.d [.b [610],.b [353],.a,.b [352,354],.b [352],.a,.b [352],.b [352],.a,.a,.a]))) .l))))))) .l)))))) .l)) .l)))))) .l))))))))) func14 call14 [(2,ig),(4,l9),(26,l9),(9,(.a7 .bA fU)),(38,lD),(47,(.osl bn)),(53,l9),(13,l9),(19,a5),(119,l9),(134,l9)] [(9,35000)]
def QN:aB:=⟨82,[.v eC],[.bool],yR⟩
theorem X9:aA E QN:=
 .q aH (.k [0] (.n (.n (.t .none (.n (.o (.k [9,10] (.p ⟨[ah 3,aT 11],[(3,fE)]⟩ (.bk 0 ⟨[],[]⟩) (.n (.n (.t (.bk [11] ⟨[ah 3],[(3,fE)]⟩) (.o (.n (.t (.bk [5] ⟨[ah 3],[(3,fE)]⟩) .l .l))) .l))))))) .l)))) func82 call82 [(8,fE)]
def QO:aB:=⟨83,[.v l7],[.bool],yS⟩
theorem Ya:aA E QO:=
 .q aH (.k [0] (.n (.n (.t (.bk [1,3] ⟨[],[]⟩) .l (.t .none (.n (.o (.k [1,3,26] (.p ⟨[aT 27],[]⟩ (.bk 0 ⟨[],[]⟩) (.n (.n (.t (.bk [27] ⟨[],[]⟩) (.o (.n (.t (.bk [4] ⟨[],[]⟩) .l (.n (.t (.bk [5] ⟨[],[]⟩) .l (.n (.o (.k [5] (.p ⟨[aT 6],[]⟩ (.bk 2 ⟨[],[]⟩) .l))))))))) .l))))))) .l))))) func83 call83 [(1,mS)]
def O3:aB:=⟨23,[.v l7],[aK],rR⟩
theorem J5:aA E O3:=
 .q (ak Bo (ak Bn (ak EJ (ak Ya (ak X9 aH))))) (.k [0] (.n (.n (.t (.bk [1,3] ⟨[],[]⟩) (.o (.n (.n (.n (.n (.t (.x [] ⟨[(18,.v .bool)],[]⟩) .l .l)))))) (.t .none (.n (.o (.k [1,3,39,40] (.p ⟨[aT 41],[]⟩ (.bk 1 ⟨[],[]⟩) .l)))) (.t .none (.n (.o (.k [1,49] (.p ⟨[aT 50],[]⟩ (.bk 3 ⟨[],[]⟩) .l)))) .l)))))) func23 call23 [(1,mS)]
def Q2:aB:=⟨97,[.v a5,.v a5],[aZ,aZ,aK],qn⟩
theorem KC:aA E Q2:=
 .q (ak sN (ak nj aH)) (.k [0,1] (.n (.t .none (.d [.a,.a,.a,.a,.c [226] [224],.c [258] [256],.c [226] [224],.c [258] [256]]) (.t .none (.o (.n (.t .none (.t .none (.d [.b [226],.b [258],.a,.a,.c [130] [128],.c [162] [160],.a]) .l) (.n (.t .none (.t .none (.d [.b [226],.b [258],.a,.a,.c [130] [128],.c [162] [160],.a]) .l) (.n (.t .none (.t .none (.d [.b [226],.a,.a,.a,.a,.a,.a,.b [258],.a,.a,.c [130] [128],.c [162] [160],.a]) .l) .l))))))) (.t .none (.d [.b [226],.b [258],.a,.a,.a,.a,.a,.a,.a,.a,.c [130] [128],.c [162] [160],.a]) .l))))) func97 call97 [(2,hx),(3,hx),(4,aZ),(5,aZ),(7,aZ),(8,aZ)]
def P6:aB:=⟨32,[.v a5,.v a5],[a5],zT⟩
theorem XO:aA E P6:=
 .q (ak KC (ak uT (ak ni (ak q3 (ak uS aH))))) (.k [0,1] (.n (.t .none (.d [.b [66],.a,.b [98],.a,.c [66] [64],.c [98] [96]]) (.t (.bk [] ⟨[ah 2,ah 3,ah 4],[(2,dq),(3,dq),(4,dq)]⟩) (.t (.x [] ⟨[ah 2,ah 3,ah 4,(17,.v .bool)],[(2,dq),(3,dq),(4,dq)]⟩) .l .l) .l)))) func32 call32 [(4,a5),(5,aZ),(6,aZ)]
def P4:aB:=⟨31,[.v a5,.v a5],[a5],zZ⟩
theorem XM:aA E P4:=
 .q (ak XO (ak J9 aH)) (.k [0,1] (.n (.t .none (.d [.a,.a,.a,.a,.c [130] [128]]) .l))) func31 call31 [(2,hx),(3,hx),(4,a5)]
def Q3:aB:=⟨98,[.v a5,.v a5],[aK,.bool],zU⟩
theorem Yc:aA E Q3:=
 .q (ak KC (ak ni (ak Ey aH))) (.k [0,1] (.n (.t .none (.d [.b [66],.a,.b [98],.a,.c [66] [64],.c [98] [96]]) (.t (.bk [] ⟨[ah 2,ah 3],[(2,dq),(3,dq)]⟩) (.t (.x [] ⟨[ah 2,ah 3,(18,.v .bool)],[(2,dq),(3,dq)]⟩) .l .l) .l)))) func98 call98 [(6,aZ),(7,aZ)]
def M0:aB:=⟨100,[.v l7],[aK],rU⟩
theorem JC:aA E M0:=
 .q (ak J5 aH) (.k [0] .l) func100 call100 [(1,mS)]
def P8:aB:=⟨36,[.v l7],[mR,aK],rS⟩
theorem XP:aA E P8:=
 .q (ak JC aH) (.k [0] (.n (.n (.n (.n (.t .none (.n (.o (.k [1,5,25] (.p ⟨[ah 2,ah 6,aT 26],[(2,kk),(6,kk)]⟩ (.x 0 ⟨[ah 2,ah 6],[(2,kk),(6,kk)]⟩) (.n (.n (.t .none (.o (.n (.n (.o (.k [7,26] (.p ⟨[ah 2,ah 6,aT 8],[(2,kk),(6,kk)]⟩ (.x 2 ⟨[ah 2,ah 6],[(2,kk),(6,kk)]⟩) (.n (.t .none (.o (.d [.b [194,204],.b [204],.a,.a,.a,.a,.a,.a,.a,.a,.a,.a,.a,.a,.a,.a,.b [204,206],.c [206] [192]])) .l)))))))) .l))))))) .l)))))) func36 call36 [(1,mS),(2,mR),(13,mR),(23,(.osl bn)),(6,mR)]
def N4:aB:=⟨165,[.v eC,.v aK,.v aK],[.bool],Aj⟩
theorem Wz:aA E N4:=
 .q aH (.k [0,1,2] (.n (.t (.bk [] ⟨[],[]⟩) .l (.t .none (.n (.o (.p ⟨[aT 7],[]⟩ (.bk 0 ⟨[],[]⟩) .l))) .l)))) func165 call165
def M1:aB:=⟨101,[.v l7],[aK],r7⟩
theorem JD:aA E M1:=
 .q (ak xB (ak Ku (ak xA (ak Wz (ak JJ aH))))) (.k [0] (.n (.n (.t (.bk [1,3] ⟨[],[]⟩) (.o (.n (.n (.n (.n (.t (.x [] ⟨[(20,.v .bool)],[]⟩) .l .l)))))) (.t .none (.n (.o (.k [1,3] (.p ⟨[aT 4],[]⟩ (.bk 1 ⟨[],[]⟩) (.n (.t (.bk [4] ⟨[],[]⟩) (.o (.t .none (.n (.o (.p ⟨[aT 5],[]⟩ (.bk 3 ⟨[],[]⟩) (.n (.t (.bk [5] ⟨[],[]⟩) .l .l))))) .l)) .l)))))) (.t .none (.n (.o (.k [1,3] (.p ⟨[aT 6],[]⟩ (.bk 5 ⟨[],[]⟩) .l)))) (.t .none (.n (.o (.k [1,3] (.p ⟨[aT 7],[]⟩ (.bk 7 ⟨[],[]⟩) .l)))) .l))))))) func101 call101 [(1,mS)]
def M2:aB:=⟨102,[.v l7,.v aK,.v aK],[bn],Ak⟩
theorem V1:aA E M2:=
 .q aH (.k [0,1,2] (.n (.t .none (.n (.o (.k [3] (.p ⟨[aT 7],[]⟩ (.bk 0 ⟨[],[]⟩) .l)))) .l))) func102 call102 [(3,mS)]
def P9:aB:=⟨37,[.v l7],[mR,aK],qq⟩
theorem Kh:aA E P9:=
 .q (ak V1 (ak JD aH)) (.k [0] (.n (.n (.n (.n (.n (.t .none (.n (.o (.k [1,5] (.p ⟨[ah 2,ah 6,aT 7],[(2,kk),(6,kk)]⟩ (.x 0 ⟨[ah 2,ah 6],[(2,kk),(6,kk)]⟩) (.n (.t .none (.o (.n (.o (.k [7] (.p ⟨[ah 2,ah 6,aT 8],[(2,kk),(6,kk)]⟩ (.x 2 ⟨[ah 2,ah 6],[(2,kk),(6,kk)]⟩) (.n (.t .none (.o (.d [.b [194,204],.b [204],.a,.a,.a,.a,.c [1282] [1280],.c [1312,1282,204,206] [1312,195],.b [194,204],.c [1312,204,206] [192,1312,1313]])) .l))))))) .l)))))) .l))))))) func37 call37 [(1,mS),(2,mR),(13,mR),(20,mR),(6,mR),(23,mR)]
def Qa:aB:=⟨38,[.v l7],[hG,aK],qd⟩
theorem Ki:aA E Qa:=
 .q (ak Bo (ak JF (ak JE (ak JC aH)))) (.k [0] (.n (.n (.n (.n (.t .none (.n (.o (.k [1,5,27] (.p ⟨[ah 2,ah 6,aT 28],[(2,e4),(6,(.osl hd))]⟩ (.x 0 ⟨[ah 2,ah 6],[(2,e4),(6,(.osl hd))]⟩) (.n (.n (.t .none (.o (.n (.n (.o (.k [7,28] (.p ⟨[ah 2,ah 6,aT 8],[(2,e4),(6,(.osl hd))]⟩ (.x 2 ⟨[ah 2,ah 6],[(2,e4),(6,(.osl hd))]⟩) (.n (.t .none (.o (.n (.o (.k [8] (.p ⟨[ah 2,ah 6,aT 9],[(2,e4),(6,(.osl hd))]⟩ (.x 4 ⟨[ah 2,ah 6],[(2,e4),(6,(.osl hd))]⟩) (.n (.t .none (.o (.n (.d [.b [193],.a,.b [193],.a,.b [192,194],.b [192],.a,.a,.a,.a,.a,.a,.a,.a,.a,.a,.a,.a,.a,.c [2978] [2976],.c [192,3008,2978] [192,3008],.b [192,194],.c [192,3008] [192,3008,3009]]))) .l))))))) .l)))))))) .l))))))) (.n (.t .none (.n (.o (.k [101] (.p ⟨[ah 2,ah 11,(100,.s (.ref 6 [])),aT 102],[(2,e4),(6,(.osl hd)),(11,e4)]⟩ (.x 6 ⟨[ah 2,ah 11],[(2,e4),(11,e4)]⟩) (.n (.n (.t .none (.o (.n (.d [.b [354,364],.b [364],.b [192],.b [192],.c [3522] [3520],.c [3552,3522,364,366] [3552,355],.b [354,364],.c [3552,364,366] [352,3552,3553]]))) .l))))))) .l)))))))) func38 call38 [(1,mS),(2,hG),(18,hG),(26,(.osl hd)),(11,hG),(99,hG)]
def M5:aB:=⟨105,[.v aK,.v aK],[hG],wI⟩
theorem JG:aA E M5:=
 .q aH (.k [0,1] .l) func105 call105 [(4,hG),(10,hd)]
def Qb:aB:=⟨39,[.v l7],[hG,aK],qr⟩
theorem Kj:aA E Qb:=
 .q (ak Kt (ak Kh (ak EG (ak JG aH)))) (.k [0] (.n (.n (.n (.n (.n (.t .none (.n (.o (.k [6] (.p ⟨[ah 2,ah 4,ah 7,aT 8],[(2,e4),(4,(.optr nP)),(7,e4)]⟩ (.x 0 ⟨[ah 2,ah 7],[(2,e4),(7,e4)]⟩) (.n (.t .none (.o (.n (.o (.k [8] (.p ⟨[ah 2,ah 4,ah 7,aT 9],[(2,e4),(4,(.optr nP)),(7,e4)]⟩ (.x 2 ⟨[ah 2,ah 4,ah 7],[(2,e4),(4,(.optr nP)),(7,e4)]⟩) (.n (.t .none (.o (.n (.t .none (.n (.o (.k [9] (.p ⟨[ah 2,ah 4,ah 7,ah 10,aT 11],[(2,e4),(4,(.optr nP)),(7,e4),(10,hd)]⟩ (.x 4 ⟨[ah 2,ah 4,ah 7,ah 10],[(2,e4),(4,(.optr nP)),(7,e4),(10,hd)]⟩) (.n (.t .none (.o (.d [.b [321],.b [130,140],.b [140],.a,.a,.a,.a,.a,.a,.a,.b [130,140],.b [140],.a,.a,.a,.a,.a,.a,.a,.a,.c [1954] [1952],.c [322,1954,1986] [320,1984,321,1985],.c [322,1986] [320,1984,321,1985]])) .l)))))) (.d [.b [226,236],.b [236],.a,.a,.a,.a,.a,.b [321],.b [322],.b [236,238],.c [238] [224]])))) .l))))))) .l)))))) .l))))))) func39 call39 [(1,mS),(2,hG),(4,nP),(19,hG),(7,hG),(10,hd)] [(999999,15000)]
def Qc:aB:=⟨40,[.v gy,.v eC],[hG,aK],oU⟩
theorem Kk:aA E Qc:=
 .q (ak Kq (ak JH (ak Es aH))) (.k [0,1] (.n (.n (.n (.n (.t .none (.d [.a,.a,.a,.a,.a,.a,.a,.a,.c [1122] [1120],.c [258] [256],.c [258,1122] [256,1120,1121]]) (.t .none (.n (.o (.k [6,39] (.p ⟨[ah 4,ah 8,aT 40],[(4,e4),(8,e4)]⟩ (.x 0 ⟨[ah 4,ah 8],[(4,e4),(8,e4)]⟩) (.n (.n (.t .none (.o (.n (.n (.o (.k [9,40,46] (.p ⟨[ah 4,ah 8,aT 47],[(4,e4),(8,e4)]⟩ (.x 2 ⟨[ah 4,ah 8],[(4,e4),(8,e4)]⟩) (.n (.n (.t .none (.o (.n (.d [.b [258,268],.b [268],.a,.a,.a,.a,.a,.c [1826] [1824],.c [1856,1826,268,270] [1856,259],.b [258,268],.c [1856,268,270] [256,1856,1857]]))) .l))))))))) .l))))))) .l))))))) func40 call40 [(2,ig),(4,hG),(19,hG),(26,hG),(8,hG),(35,hG)]
def Qd:aB:=⟨41,[.v gy,.v eC],[hG,aK],o5⟩
theorem Kl:aA E Qd:=
 .q (ak Ks (ak Kr (ak JG aH))) (.k [0,1] (.n (.n (.n (.n (.n (.t .none (.n (.o (.k [2,7] (.p ⟨[ah 4,ah 8,aT 9],[(4,e4),(8,e4)]⟩ (.x 0 ⟨[ah 4,ah 8],[(4,e4),(8,e4)]⟩) (.n (.t .none (.o (.n (.o (.k [9] (.p ⟨[ah 4,ah 8,aT 10],[(4,e4),(8,e4)]⟩ (.x 2 ⟨[ah 4,ah 8],[(4,e4),(8,e4)]⟩) (.n (.t .none (.o (.d [.b [258,268],.b [268],.a,.a,.a,.a,.a,.a,.a,.a,.a,.a,.b [268,270],.c [270] [256]])) .l))))))) .l)))))) .l))))))) func41 call41 [(2,ig),(4,hG),(16,hG),(22,hG),(8,hG)]
def M8:aB:=⟨108,[.v aK],[a5],yY⟩
theorem V2:aA E M8:=
 .q (ak xu (ak Bh aH)) (.k [0] .l) func108 call108 [(2,a5)]
def Oe:aB:=⟨174,[.v a5,.v a5],[aZ,aZ,aK],vT⟩
theorem JS:aA E Oe:=
 .q (ak uR aH) (.k [0,1] (.n (.n (.t .none (.d [.a,.a,.a,.a,.a,.a,.a,.a,.a,.a,.a,.a,.a,.a,.a,.c [130] [128],.c [162] [160],.a]) .l)))) func174 call174 [(2,hx),(3,hx),(4,aZ),(5,aZ)]
def Oc:aB:=⟨172,[.v a5,.v a5],[a5],yX⟩
theorem WB:aA E Oc:=
 .q (ak JS (ak Bj (ak Bi (ak Ez (ak xu aH))))) (.k [0,1] .l) func172 call172 [(4,a5),(6,aZ),(7,aZ)]
def Nb:aB:=⟨110,[.v a5,.v a5],[a5],y3⟩
theorem V5:aA E Nb:=
 .q (ak JR (ak WB aH)) (.k [0,1] (.n (.t .none (.d [.a,.a,.a,.a,.c [130] [128]]) .l))) func110 call110 [(2,hx),(3,hx),(4,a5)]
def M9:aB:=⟨109,[.v a5],[a5],yW⟩
theorem V3:aA E M9:=
 .q (ak EA (ak sK aH)) (.k [0] (.n (.n (.t (.x [] ⟨[ah 1,ah 2],[(1,dq),(2,dq)]⟩) .l .l)))) func109 call109 [(2,a5)]
def Nc:aB:=⟨111,[.v a5,.v a5],[aK,.bool],vO⟩
theorem V6:aA E Nc:=
 .q (ak EB (ak JS (ak Ez aH))) (.k [0,1] .l) func111 call111 [(7,aZ),(8,aZ)]
def Qe:aB:=⟨42,[.v gy,.v l7],[a5,aK],rT⟩
theorem XQ:aA E Qe:=
 .q (ak Kk (ak Ki (ak J5 (ak V6 (ak V5 (ak V3 (ak V2 aH))))))) (.k [0,1] (.n (.n (.n (.n (.n (.n (.t .none (.n (.o (.k [41] (.p ⟨[ah 4,ah 7,ah 9,ah 11,aT 42],[(4,dq),(7,(.optr kh)),(9,(.optr kh)),(11,dq)]⟩ (.x 0 ⟨[ah 4,ah 11],[(4,dq),(11,dq)]⟩) (.n (.n (.t (.x [42] ⟨[ah 4,ah 7,ah 9,ah 11],[(4,dq),(7,(.optr kh)),(9,(.optr kh)),(11,dq)]⟩) (.o (.n (.t .none (.d [.b [226,236],.b [236],.a,.a,.a,.b [290,300],.b [300],.a,.a,.a,.a,.a,.c [418] [416],.c [418] [416]]) .l))) .l))))))) .l)))))))) func42 call42 [(2,ig),(3,mS),(4,a5),(7,kh),(9,kh),(11,a5),(13,a5)] [(999999,27000),(999999,36000)]
def Og:aB:=⟨176,[.v a5,.v a5],[.bool],wH⟩
theorem WC:aA E Og:=
 .q (ak Yc aH) (.k [0,1] .l) func176 call176 [(2,hx),(3,hx)]
def Nd:aB:=⟨112,[.v pY,.v pY],[a5],C4⟩
theorem V7:aA E Nd:=
 .q (ak XM (ak Kg (ak WC aH))) (.k [0,1] (.n (.n (.t .none (.n (.o (.k [2,3] (.p ⟨[ah 4,ah 5,aT 6],[(4,dq),(5,dq)]⟩ (.x 0 ⟨[ah 4,ah 5],[(4,dq),(5,dq)]⟩) (.n (.t (.x [6] ⟨[ah 4,ah 5],[(4,dq),(5,dq)]⟩) (.o (.t .none (.d [.a,.a,.a,.a,.a,.a,.a,.a,.a,.a,.a,.a,.c [226] [224],.c [226] [224]]) .l)) .l)))))) .l)))) func112 call112 [(2,(.ptr .bA pY)),(3,(.ptr .bA pY)),(4,a5),(5,a5),(7,a5)]
def Qf:aB:=⟨43,[.v gy,.v l7],[a5,aK],r8⟩
theorem XR:aA E Qf:=
 .q (ak Kl (ak Kj (ak V7 (ak JD aH)))) (.k [0,1] .l) func43 call43 [(2,ig),(3,mS),(4,a5),(7,kh),(9,kh)] [(999999,22000),(999999,31000)]
def Qg:aB:=⟨44,[.v yr,.v yr],[.bool],wg⟩
theorem XS:aA E Qg:=
 .q (ak Kp aH) (.k [0,1] .l) func44 call44 [(2,(.ptr .bA yr)),(3,(.ptr .bA yr))]
def O2:aB:=⟨229,[.v b0,.v b0],[.bool],C2⟩
theorem W2:aA E O2:=
 .q aH (.k [0,1] (.n (.n (.t .none (.n (.o (.p ⟨[aT 5],[]⟩ (.bk 0 ⟨[],[]⟩) .l))) .l)))) func229 call229
def Oh:aB:=⟨177,[.v aZ,.v aZ],[.bool],C0⟩
theorem WD:aA E Oh:=
 .q (ak W2 aH) (.k [0,1] .l) func177 call177 [(2,eD),(3,eD)]
def Nf:aB:=⟨113,[.v a5,.v a5],[.bool],C1⟩
theorem V8:aA E Nf:=
 .q (ak WD aH) (.k [0,1] .l) func113 call113 [(2,hx),(3,hx)]
def Qi:aB:=⟨46,[.v a5,.v a5],[.bool],r5⟩
theorem Km:aA E Qi:=
 .q (ak ni (ak V8 aH)) (.k [0,1] .l) func46 call46 [(2,hx),(3,hx)]
def Qh:aB:=⟨45,[.v pY,.v pY],[.bool],ql⟩
theorem XT:aA E Qh:=
 .q (ak Km aH) (.k [0,1] (.n (.t (.bk [2,3] ⟨[],[]⟩) .l (.t .none (.n (.o (.k [2,3] (.p ⟨[aT 5],[]⟩ (.bk 0 ⟨[],[]⟩) .l)))) .l)))) func45 call45 [(2,(.ptr .bA pY)),(3,(.ptr .bA pY))]
def tc:aB:=⟨7,[.v kj,.v aK,.v aK,.v kj],[.bool],C3⟩
theorem X3:aA E tc:=
 .q (ak Km (ak XT (ak XS (ak XR (ak XQ (ak Kl (ak Kk (ak Kj (ak Ki (ak Kh (ak XP (ak EH (ak Ws (ak V9 (ak V4 aH))))))))))))))) (.k [0,1,2,3] .l) func7 call7 [(9,jK),(11,tv),(14,jK),(15,nP),(17,nP),(19,kh),(21,kh),(23,kh),(25,kh),(27,a5),(29,a5)] [(999999,51),(999999,42000),(999999,55000),(999999,60000),(999999,65000),(999999,70000),(999999,76000),(999999,82000)]
end
end Go.i9
end
