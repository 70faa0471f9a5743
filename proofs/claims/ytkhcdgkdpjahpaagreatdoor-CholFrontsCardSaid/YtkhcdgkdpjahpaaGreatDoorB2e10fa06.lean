/-
  Parts of the proof: Fw25, Fw36, Fw46, Pl1, Fs, Dn20, Dn21, TwS, Dn20b, Dn22, Dn24a, Dn24, Tw24, Ok24, Pa1, Pl2, Pl3: the framework (Fw), pure forms (Dn), plain laws (Pl, Th), calls of functions (Ok).
-/
import Derived.ProofKit
import Derived.Handed
import Derived.KernelRfl
import Derived.Lib.SlicesCompact
import Derived.RangeFuncBox
import Derived.RangeFuncLeaves
import Derived.Shelf.Abstract
import Derived.WalkKit
import Derived.OwnWalkIn
import Derived.TacticsInMore
import Derived.LoopNIn
import Derived.LoopIn
import Derived.Maps.AppendAt
import Derived.Shelf.Slices.CompactI
import Derived.Lib.OwnBridge
import Derived.Test.YtkhcdgkdpjahpaaGreatDoorProg
import Derived.Test.YtkhcdgkdpjahpaaGreatDoorB24405cbc

set_option linter.all false
noncomputable section
namespace Go.hT
variable{a:Nat}{b:ab1}{c:Type}{d:Value}{e:Int}{f:World}{g:List ResultVar}{h:dd->Nat->Prop}{i:List fP}{j:List ah}{k:Nat->Prop}
section
def lO:Nat->(f:List fP)->fV f->List (Nat×ak)
 |_,[],_=>[]
 |k,.v g::b,a=>(k,.val g a.1)::lO (k+1) b a.2
 |k,.m _::b,a=>(k,.ref k [])::lO (k+1) b a.2
 |k,.o _::b,a=>(k,.ref k [])::lO (k+1) b a.2
 |k,.c e h::b,a=>(k,.dt e ((hB h a.1).map λd=>.val d.1 d.2))::lO (k+1) b a.2
 |k,.n::b,a=>(k,.cv (.slice none 0 0))::lO (k+1) b a.2
 |k,.w _::b,a=>(k,.view k [] a.1.2.1 a.1.2.2)::lO (k+1) b a.2
 |k,.s _ _::b,a=>lO (k+1) b a.2
def lP:Nat->(e:List fP)->fV e->List (Nat×aB)
 |_,[],_=>[]
 |k,.v _::b,a=>lP (k+1) b a.2
 |k,.m d::b,a=>(k,⟨d,a.1⟩)::lP (k+1) b a.2
 |k,.o d::b,a=>(k,⟨d,a.1⟩)::lP (k+1) b a.2
 |k,.c _ _::b,a=>lP (k+1) b a.2
 |k,.n::b,a=>lP (k+1) b a.2
 |k,.w f::b,a=>(k,⟨.osl f,a.1.1⟩)::lP (k+1) b a.2
 |k,.s _ _::b,a=>lP (k+1) b a.2
def iN:Nat->List fP->ab0
 |_,[]=>[]
 |k,.m _::a=>k::iN (k+1) a
 |k,.v _::a=>iN (k+1) a
 |k,.o _::a=>iN (k+1) a
 |k,.c _ _::a=>iN (k+1) a
 |k,.n::a=>iN (k+1) a
 |k,.w _::a=>k::iN (k+1) a
 |k,.s _ _::a=>iN (k+1) a
theorem C7 {r:Type}:∀{k:Nat} {ps:List fP} {a:fV ps} {b:hC ps r},ia k (eV ps a b)=lO k ps a/\iO k (eV ps a b)=lP k ps a/\gp k (eV ps a b)=iN k ps/\(eV ps a b).length=ps.length
 |k,[],a,b=>⟨rfl,rfl,rfl,rfl⟩
 |k,i::h,a,b=>by
  have g:=λa b=>C7 (r:=r) (k:=k+1) (ps:=h) (a:=a) (b:=b);cases i
  case m=>
   obtain⟨c,d,e,f⟩:=g a.2 b.2;simp only[eV,ia,iO,gp,lO,lP,iN,h5,c,d,e,f,and_self]
  case w=>
   obtain⟨c,d,e,f⟩:=g a.2 b.2;simp only[eV,ia,iO,gp,lO,lP,iN,h5,c,d,e,f,and_self]
  all_goals obtain⟨c,d,e,f⟩:=g a.2 b;simp only[eV,ia,iO,gp,lO,lP,iN,h5,c,d,e,f,and_self]
def Cf (tt:List (TypeId×ah)) (e:aH) (b:ah):ResultVar->Option (b.den×ab0)
 |.tmp k=>match gt e.g k with
  |.val _ l=>(gJ b l).bind λa=>some (a,[])
  |.cv f=>bif nj b f then(hu b f.cells.toList).bind λa=>some (a,[]) else none
  |.ref id d=>match al e.h id with
   |some c=>(gA c.1 c.2 d b).bind λa=>some (a,[id])
   |none=>none
  |_=>none
 |.cell j i=>match al tt i with
  |some m=>bif a5 m b then match gt e.g j with
   |.ref id d=>match al e.h id with
    |some c=>match dO c.1 d with
     |some (.optr _)=>(gA c.1 c.2 (d++[.deref]) b).bind λa=>some (a,[id])
     |_=>none
    |none=>none
   |_=>none else none
  |none=>none
def Ce (tt:List (TypeId×ah)) (c:aH):List ResultVar->(a:List ah)->Option (kr a×ab0)
 |[],[]=>some ((),[])
 |r::f,e::a=>bif e.eu then(Cf tt c e r).bind λd=>(Ce tt c f a).map λb=>((d.1,b.1),d.2++b.2) else none
 |_,_=>none
theorem ZK {E:dY} {l:aH} {d:ah} {e:ResultVar} {i:d.den×ab0} (a:Cf E.tt l d e=some i):qk E.P l ⟨d,i.1⟩ e i.2:=by
 cases e with
 |tmp e=>
  simp only[Cf] at a;simp only[qk];split at a
  ·rename_i v u b;obtain⟨k,c,a⟩:=c9.1 a;cases a;rw[b];exact⟨jb c,rfl⟩
  ·rename_i r b;cases f:nj d r with
   |false=>rw[f] at a;cases a
   |true=>
   rw[f] at a;obtain⟨k,c,a⟩:=c9.1 a;cases a;rw[b];exact⟨c,nj.ok f,rfl⟩
  ·rename_i id q b;split at a
   case h_2=>cases a
   rename_i j h;obtain⟨k,c,a⟩:=c9.1 a;cases a;rw[b];exact⟨rfl,j,h,hh c⟩
  ·cases a
 |cell t n=>
  simp only[Cf] at a;simp only[qk];split at a
  case h_2=>cases a
  rename_i m o;cases g:a5 m d with
  |false=>rw[g] at a;cases a
  |true=>
  rw[g] at a;refine⟨(E.ok n m o).lay g,?_⟩;simp only[cond_true] at a;split at a
  case h_2=>cases a
  rename_i id q b;split at a
  case h_2=>cases a
  rename_i j h;split at a
  case h_2=>cases a
  rename_i s p;obtain⟨k,c,a⟩:=c9.1 a;cases a;rw[b];exact⟨rfl,j,s,h,p,hh c⟩
theorem LX {E:dY} {f:aH}:∀{e:List ResultVar} {c:List ah} {b:kr c×ab0},Ce E.tt f e c=some b->r0 E.P f e (hB c b.1) b.2
 |[],[],b,a=>by cases a;rfl
 |[],_::_,b,a=>by cases a
 |_::_,[],b,a=>by cases a
 |r::e,k::c,b,a=>by
  simp only[Ce] at a;cases d:k.eu with
  |false=>rw[d] at a;cases a
  |true=>
  rw[d] at a;simp only[cond_true] at a;obtain⟨j,h,a⟩:=c9.1 a;obtain⟨i,g,rfl⟩:=eb.1 a;exact⟨d,j.2,i.2,rfl,ZK h,LX g⟩
def nv (
 st:aH) {t:Type} (d:Option t):Nat->(r:List fP)->fV r->Option (hC r t)
 |_,[],_=>d
 |k,.v _::b,a=>nv st d (k+1) b a.2
 |k,.o _::b,a=>nv st d (k+1) b a.2
 |k,.c _ _::b,a=>nv st d (k+1) b a.2
 |k,.n::b,a=>nv st d (k+1) b a.2
 |k,.s _ _::b,a=>nv st d (k+1) b a.2
 |k,.m l::b,a=>bif qt (.ref k []) (gt st.g k)&&(l.eu&&p3 l) then match al st.h k with
  |some j=>match gJ l j.2 with
   |some e=>(nv st d (k+1) b a.2).map λi=>(e,i)
   |none=>none
  |none=>none else none
 |k,.w f::b,a=>match gt st.g k with
  |.view u [] q p=>bif Nat.beq k u&&f.eu then match al st.h k with
   |some j=>match gJ (.osl f) j.2 with
    |some e=>bif Nat.beq q a.1.2.1&&(Nat.beq p a.1.2.2&&(Nat.beq (List.length (α:=f.den) e) (List.length (α:=f.den) a.1.1)&&Nat.blt q p)) then(nv st d (k+1) b a.2).map λi=>(e,i) else none
    |none=>none
   |none=>none else none
  |_=>none
theorem rj {y:aH} {C:Type} {B:Option C}:∀{k:Nat} {ps:List fP} {a:fV ps} {e:hC ps C},nv y B k ps a=some e->nR y k (eV ps a e)/\B=some (gU ps e)
 |k,[],a,e,b=>⟨trivial,b⟩
 |k,.v _::f,a,e,b=>rj (ps:=f) b
 |k,.o _::f,a,e,b=>rj (ps:=f) b
 |k,.c _ _::f,a,e,b=>rj (ps:=f) b
 |k,.n::f,a,e,b=>rj (ps:=f) b
 |k,.s _ _::f,a,e,b=>rj (ps:=f) b
 |k,.m E::f,a,e,b=>by
  simp only[nv] at b;cases d:(qt (.ref k []) (gt y.g k)&&(E.eu&&p3 E)) with
  |false=>rw[d] at b;cases b
  |true=>
  rw[d] at b;simp only[bg] at d;simp only[cond_true] at b;split at b
  case h_2=>cases b
  rename_i J t;split at b
  case h_2=>cases b
  rename_i D u;obtain⟨I,r,rfl⟩:=eb.1 b;obtain⟨l,p⟩:=rj (a:=a.2) r;refine⟨⟨⟨(qt.ok d.1).symm,?_,d.2.1,d.2.2⟩,l⟩,p⟩;rw[t];exact congrArg some (jb u)
 |k,.w z::f,a,e,b=>by
  simp only[nv] at b;split at b
  case h_2=>cases b
  rename_i H x q G;cases d:(Nat.beq k H&&z.eu) with
  |false=>rw[d] at b;cases b
  |true=>
  rw[d] at b;simp only[bg] at d;obtain rfl:=es d.1;simp only[cond_true] at b;split at b
  case h_2=>cases b
  rename_i J t;split at b
  case h_2=>cases b
  rename_i D u;cases h:(Nat.beq x a.1.2.1&&(Nat.beq q a.1.2.2&&(Nat.beq (List.length (α:=z.den) D) (List.length (α:=z.den) a.1.1)&&Nat.blt x q))) with
  |false=>rw[h] at b;cases b
  |true=>
  rw[h] at b;simp only[bg] at h;obtain⟨i,j,F,A⟩:=h;have i:=es i;have j:=es j;have A:x<q:=eT A;obtain⟨I,r,rfl⟩:=eb.1 b;obtain⟨l,p⟩:=rj (a:=a.2) r;refine⟨⟨⟨by rw[G,i,j],?_,⟨d.2,U⟩,es F⟩,l⟩,p⟩;rw[t];exact congrArg some (jb u)
def A8 (tt:List (TypeId×ah)) (a:List fP) (f:List ResultVar) (d:List ah) (e:fV a) (c:aH):Option (hC a (kr d)):=
 match Ce tt c f d with
 |some b=>bif h2 (iN 0 a++b.2) then nv c (some b.1) 0 a e else none
 |none=>none
theorem I1 {E:dY} {m:aH} {d:fV i} {e:hC i (kr j)} {f:Exit} (p:f=.normal\/f=.ret) (c:A8 E.tt i g j d m=some e):GL E.P (eV i d e) g (hB j (gU i e)) f m:=by
 unfold A8 at c;split at c
 case h_2=>cases c
 rename_i l q;cases h:h2 (iN 0 i++l.2) with
 |false=>rw[h] at c;cases c
 |true=>
 rw[h] at c;simp only[cond_true] at c;obtain⟨n,o⟩:=rj (a:=d) c;refine⟨p,l.2,?_,?_,n⟩
 ·rw[<-dV o];exact LX q
 ·rw[(C7 (k:=0) (ps:=i) (a:=d) (b:=e)).2.2.1];exact h
def I2 (tt:List (TypeId×ah)) (a:List fP) (e:List ResultVar) (c:List ah) (d:fV a):Exit->aH->Option (hC a (kr c))
 |.normal,b=>A8 tt a e c d b
 |.ret,b=>A8 tt a e c d b
 |_,_=>none
def Bn (c:fG) (e:kX) (f:Code) (a:List fP) (g:List ResultVar) (d:List ah) (b:fV a):Option (hC a (kr d)):=
 gL c e f ⟨lO 0 a b,lP 0 a b⟩ _ (I2 c.tt a g d b)
section
variable {E:dY}
theorem aD.KG {f:Nat} {d:Func} {h:fV i->Option (hC i (kr j))} (n:List (Nat×aF)) (s:List (Nat×ah)) (o:ab2) (x:kX) (aq:abT) (I:∀w∈aq,GK E.P w) (H:E.P.funcs[f]?=some d) (q:d.body.isSome=true) (M:d.results=g.toArray) (L:Nat.ble i.length d.ntmps=true) (G:∀(t:abS) (u:World),(callFunc f t).run E.P u=.ok (.enter f t) u) (N:∀O∈n,aD E O.2) (C:∀e,Bn ⟨E.tt,n,s,d.ntmps,iN 0 i++mS (iz 0 i),[],o,iz 0 i,aq,[],E.glob⟩ x (d.body.getD .skip) i g j e=h e):aD E ⟨f,i,j,h⟩:=by
 refine⟨G,λe v p=>?_⟩;rw[show(aF.mk f i j h).vy e=h e from rfl,<-C e] at p;obtain⟨aj,z,A,B⟩:=C7 (k:=0) (ps:=i) (a:=e) (b:=v);refine p7.WL H (c:=d.body.getD .skip) (by cases F:d.body with|none=>rw[F] at q;cases q|some Q=>rfl) M (by rw[B];exact eT L) ?_;intro R D l K r J;rw[aj,z];rw[yl] at l r;rw[A] at l;refine kK (ic:=⟨E.tt,n,s,d.ntmps,iN 0 i++mS (iz 0 i),[],o,iz 0 i,aq,[],E.glob⟩) ⟨rfl,D.symm,l.symm,⟨N,r,I,J,rfl⟩,nN.nil K⟩ p ?_;intro y S m;cases y with
 |normal=>exact I1 (.inl rfl) m
 |ret=>exact I1 (.inr rfl) m
 |_=>cases m
theorem aD.of {fn:Func} {rs:List ResultVar} {h:fV i->Option (hC i (kr j))} (c:List (Nat×aF)) (g:List (Nat×ah)) (f:ab2) (e:kX) (o:E.P.funcs[a]?=some fn) (m:fn.body.isSome=true) (q:fn.results=rs.toArray) (p:Nat.ble i.length fn.ntmps=true) (n:∀(k:abS) (l:World),(callFunc a k).run E.P l=.ok (.enter a k) l) (r:∀s∈c,aD E s.2) (b:∀d,Bn ⟨E.tt,c,g,fn.ntmps,iN 0 i++mS (iz 0 i),[],f,iz 0 i,[],[],E.glob⟩ e (fn.body.getD .skip) i rs j d=h d):aD E ⟨a,i,j,h⟩:=
 aD.KG c g f e [] (λ_ b=>by cases b) o m q p n r b
def Cn:Code->Code
 |.seq a _=>a
 |c=>c
def Mv:Code->Code
 |.seq _ a=>a
 |c=>c
def tm (a:Nat):Code->Option (Array Oper)
 |.region d e _=>if d=a then some e else none
 |.seq b c=>(tm a b).orElse λ_=>tm a c
 |.cond _ b c=>(tm a b).orElse λ_=>tm a c
 |.block _ b=>tm a b
 |.loop b=>tm a b
 |_=>none
theorem Em {b:fG} {k:Type} {c:Array Oper} {f:ab0} {d:aH->Option k}:∀(j:ab0) (g:aH),jC b c (j++f) g d=jC b c j g λa=>jC b c f a d
 |[],g=>rfl
 |i::e,g=>by
  have h:(λa=>jC b c (e++f) a d)=λa=>jC b c e a λa=>jC b c f a d:=funext λa=>Em e a;simp only[jm,jC];split
  ·rfl
  split
  ·rw[h]
  ·simp only[h,Em e]
theorem UK {b:Program} {tt:List (TypeId×ah)} (i:∀c f,al tt c=some f->dM b f c) {a:r4} {S:TypeId} (g:b.underlying a.T=some (.array a.xs.length S)) (h:al tt S=some (.int a.k)):∀e∈[a],G7 b e:=λe d=>by rw[eS] at d;subst d;exact⟨S,g,i _ _ h⟩
theorem MT:∀b∈([]:List (Nat×aF)),aD E b.2:=λ_ a=>by cases a
theorem aaX {d:aF} {e:List (Nat×aF)} (f:aD E d) (g:∀b∈e,aD E b.2):∀b∈(a,d)::e,aD E b.2:=λb c=>by
 rcases dh.1 c with rfl|c
 ·exact f
 ·exact g b c
end
def tD:Value->Value->Bool
 |.int c a,.int d b=>if c=d/\a=b then true else false
 |.bool a,.bool b=>a==b
 |.string a,.string b=>a.data.toList.isEmpty&&b.data.toList.isEmpty
 |.slice none 0 0,.slice none 0 0=>true
 |.map none,.map none=>true
 |.pointer none,.pointer none=>true
 |_,_=>false
theorem HM {a:ByteArray} (c:a.data.toList.isEmpty=true):a=ByteArray.empty:=by
 cases a with|mk b=>cases b with|mk d=>cases d with
  |nil=>rfl
  |cons=>cases c
theorem tD.ok {b:Value} (a:tD d b=true):d=b:=by
 unfold tD at a;split at a
 ·split at a
  ·rename_i c;obtain⟨rfl,rfl⟩:=c;rfl
  ·cases a
 ·rw[beq_iff_eq.1 a]
 ·simp only[bg] at a;rw[HM a.1,HM a.2]
 ·rfl
 ·rfl
 ·rfl
 ·cases a
def tE:abU->abU->Bool
 |[],[]=>true
 |a::c,b::d=>tD a b&&tE c d
 |_,_=>false
theorem tE.ok:∀{c d:abU},tE c d=true->c=d
 |[],[],_=>rfl
 |[],_::_,b=>by cases b
 |_::_,[],b=>by cases b
 |a::c,e::d,b=>by simp only[tE,bg] at b;rw[tD.ok b.1,tE.ok b.2]
def iw (b:Program) (c:TypeId) (d:Nat) (f:Value):Bool:=match b.info? c with
 |some a=>Nat.beq a.size 1&&Nat.ble a.bytes d&&(match a.zero with|some e=>tD e f|none=>false)
 |none=>false
theorem iw.ok {d:Program} {e:TypeId} {f:Nat} {g:Value} (b:iw d e f g=true):∃a,d.info? e=some a/\a.size=1/\a.bytes<=f/\a.zero=some g:=by
 unfold iw at b;split at b
 case h_2=>cases b
 rename_i a j;simp only[bg] at b;obtain⟨⟨h,i⟩,c⟩:=b;split at c
 case h_2=>cases c
 rename_i l k;exact⟨a,j,es h,eT i,by rw[k,tD.ok c]⟩
mutual
def gD (a:Program):ah->TypeId->Bool
 |.int g,b=>iw a b 24 (.int g 0)&&(match a.underlying b with|some (.int j)=>if j=g then true else false|_=>false)
 |.bool,b=>iw a b 24 (.bool false)&&(match a.underlying b with|some .bool=>true|_=>false)
 |.str,b=>iw a b 24 (.string ByteArray.empty)&&(match a.underlying b with|some .string=>true|_=>false)
 |.a6 _ c,b=>iw a b 24 (.slice none 0 0)&&(match a.underlying b with|some (.slice d)=>gD a c d|_=>false)
 |.osl c,b=>iw a b 24 (.slice none 0 0)&&(match a.underlying b with|some (.slice d)=>gD a c d|_=>false)
 |.ptr _ c,b=>iw a b 24 (.pointer none)&&(match a.underlying b with|some (.pointer d)=>gD a c d|_=>false)
 |.optr c,b=>iw a b 24 (.pointer none)&&(match a.underlying b with|some (.pointer d)=>gD a c d|_=>false)
 |.mp c,b=>iw a b 24 (.map none)&&(match a.underlying b with|some (.map e d)=>(match a.underlying e with|some (.int .i64)=>gD a c d|_=>false)|_=>false)
 |.dJ _ c,b=>iw a b 24 (.map none)&&(match a.underlying b with|some (.map e d)=>(match a.underlying e with|some (.int .i64)=>gD a c d|_=>false)|_=>false)
 |.st c,b=>Nat.blt 0 c.size&&match a.info? b with
  |some f=>Nat.beq f.size c.size&&Nat.ble f.bytes (24*c.size)&&(match f.zero with
   |some (.agg h)=>Nat.beq h.size c.size&&(match a.underlying b with|some (.struct i)=>qU a c i.toList 0 h.toList|_=>false)
   |_=>false)
  |none=>false
 |_,_=>false
def qU (c:Program):ah->List Field->Nat->abU->Bool
 |.pr a f,d::h,e,b=>Nat.beq d.offset e&&gD c a d.type&&Nat.blt 0 a.size&&(match c.info? d.type with|some g=>(match g.zero with|some i=>tE (b.take a.size) i.cells.toList|none=>false)|none=>false)&&qU c f h (e+a.size) (b.drop a.size)
 |.nil,[],_,b=>b.isEmpty
 |_,_,_,_=>false
end
mutual
theorem gD.ok {n:Program}:∀{o:ah} {i:TypeId},gD n o i=true->dM n o i
 |.int w,i,a=>by
  simp only[gD,bg] at a;obtain⟨c,b⟩:=a;obtain⟨e,ar,f,g,h⟩:=iw.ok c;split at b
  ·rename_i x d;split at b
   ·rename_i p;subst p;exact⟨e,ar,f,g,h,d⟩
   ·cases b
  ·cases b
 |.bool,i,a=>by
  simp only[gD,bg] at a;obtain⟨c,b⟩:=a;obtain⟨e,ar,f,g,h⟩:=iw.ok c;split at b
  ·rename_i d;exact⟨e,ar,f,g,h,d⟩
  ·cases b
 |.str,i,a=>by
  simp only[gD,bg] at a;obtain⟨c,b⟩:=a;obtain⟨e,ar,f,g,h⟩:=iw.ok c;split at b
  ·rename_i d;exact⟨e,ar,f,g,h,d⟩
  ·cases b
 |.a6 _ k,i,a=>by
  simp only[gD,bg] at a;obtain⟨c,b⟩:=a;obtain⟨e,ar,f,g,h⟩:=iw.ok c;split at b
  ·rename_i j d;exact⟨e,j,ar,f,g,h,d,gD.ok b⟩
  ·cases b
 |.osl k,i,a=>by
  simp only[gD,bg] at a;obtain⟨c,b⟩:=a;obtain⟨e,ar,f,g,h⟩:=iw.ok c;split at b
  ·rename_i j d;exact⟨e,j,ar,f,g,h,d,gD.ok b⟩
  ·cases b
 |.ptr _ k,i,a=>by
  simp only[gD,bg] at a;obtain⟨c,b⟩:=a;obtain⟨e,ar,f,g,h⟩:=iw.ok c;split at b
  ·rename_i j d;exact⟨e,j,ar,f,g,h,d,gD.ok b⟩
  ·cases b
 |.optr k,i,a=>by
  simp only[gD,bg] at a;obtain⟨c,b⟩:=a;obtain⟨e,ar,f,g,h⟩:=iw.ok c;split at b
  ·rename_i j d;exact⟨e,j,ar,f,g,h,d,gD.ok b⟩
  ·cases b
 |.mp k,i,a=>by
  simp only[gD,bg] at a;obtain⟨c,b⟩:=a;obtain⟨e,ar,f,g,h⟩:=iw.ok c;split at b
  ·rename_i l j d;split at b
   ·rename_i m;exact⟨e,l,j,ar,f,g,h,d,m,gD.ok b⟩
   ·cases b
  ·cases b
 |.dJ _ k,i,a=>by
  simp only[gD,bg] at a;obtain⟨c,b⟩:=a;obtain⟨e,ar,f,g,h⟩:=iw.ok c;split at b
  ·rename_i l j d;split at b
   ·rename_i m;exact⟨e,l,j,ar,f,g,h,d,m,gD.ok b⟩
   ·cases b
  ·cases b
 |.st k,i,a=>by
  simp only[gD,bg] at a;obtain⟨r,a⟩:=a;split at a
  case h_2=>cases a
  rename_i e t;simp only[bg] at a;obtain⟨⟨c,b⟩,a⟩:=a;split at a
  case h_2=>cases a
  rename_i v u;simp only[bg] at a;obtain⟨s,a⟩:=a;split at a
  case h_2=>cases a
  rename_i q d;exact⟨eT r,e,q,v,t,es c,eT b,u,d,qU.ok a,es s⟩
 |.pr _ _,_,a=>by cases a
 |.nil,_,a=>by cases a
 |.de,_,a=>by cases a
theorem qU.ok {f:Program}:∀{g:ah} {b:List Field} {d:Nat} {c:abU},qU f g b d c=true->hn f g b d c
 |.pr h i,[],d,c,a=>by cases a
 |.pr h i,r::s,d,c,a=>by
  simp only[qU,bg] at a;obtain⟨⟨⟨⟨j,k⟩,l⟩,e⟩,m⟩:=a;split at e
  case h_2=>cases e
  rename_i p n;split at e
  case h_2=>cases e
  rename_i q o;exact⟨es j,gD.ok k,eT l,⟨p,q,n,o,tE.ok e⟩,qU.ok m⟩
 |.nil,[],d,c,a=>by have a:c=[]:=(by simpa[qU] using a);exact a
 |.nil,_::_,d,c,a=>by cases a
 |.int _,b,d,c,a=>by cases b<;>cases a
 |.bool,b,d,c,a=>by cases b<;>cases a
 |.str,b,d,c,a=>by cases b<;>cases a
 |.a6 _ _,b,d,c,a=>by cases b<;>cases a
 |.ptr _ _,b,d,c,a=>by cases b<;>cases a
 |.osl _,b,d,c,a=>by cases b<;>cases a
 |.optr _,b,d,c,a=>by cases b<;>cases a
 |.st _,b,d,c,a=>by cases b<;>cases a
 |.de,b,d,c,a=>by cases b<;>cases a
end
theorem M6 {e:Program}:∀{tt:List (TypeId×ah)},(tt.all λf=>gD e f.2 f.1)=true->∀b d,al tt b=some d->dM e d b
 |[],_,_,_,a=>by cases a
 |(k,h)::r,a,b,d,c=>by
  simp only[rP,bg] at a;rw[bY] at c;split at c
  ·rename_i g;cases c;subst g;exact gD.ok a.1
  ·exact M6 (by simpa using a.2) b d c
end
section
def nU:(i:ah)->i.den->Prop
 |.int g,h=>(Lit.int g h).wf=true
 |.a6 _ b,c=>c.length<=maxLen/\∀a∈c,nU b a
 |.ptr _ b,a=>∀d,a=some d->nU b d
 |.st b,a=>nU b a
 |.pr e f,a=>nU e a.1/\nU f a.2
 |_,_=>True
def qs:ah->Bool
 |.int _|.bool|.str|.nil=>true
 |.a6 _ a|.ptr _ a|.st a=>qs a
 |.pr b c=>qs b&&qs c
 |_=>false
theorem Dh {P:Program} {c:ah} {a:TypeId} (d:dM P c a):P.cellsOf a=c.size:=by obtain⟨f,e,b,_⟩:=d.info;unfold Program.cellsOf;rw[b.info];simp[b.size]
section
variable {A:Type} {enc:TypeId×Value->A} {P:Program} {w:World}
theorem Di {l:Nat} {b:Addr} {c:abU} (f:w.cells? l b a=some c) (j:0<a):b.spot=none/\c.length=a/\b.block<w.heap.size/\dS w b.block b.off c:=by
 have n:=World.cells?_block f j;obtain⟨_,i,g⟩:=World.cells?_some f;have e:b.spot=none:=by
  have d:=g 0 j;have:(w.cell? (b.add 0)).isSome=true:=(by rw[d];simp[be (U:0<c.length)]);simp only[Addr.add,if_true] at this;unfold World.cell? at this;split at this
  ·cases o:b.spot with
   |none=>rfl
   |some t=>rw[o] at this;simp at this
  ·cases this
 refine⟨e,i,n,λk s h=>?_⟩;have m:k<a:=(by rw[<-i];exact(ey.1 h).1);have:=g k m;rw[h] at this;rw[<-this];congr 1;unfold Addr.add;obtain⟨p,q,r⟩:=b;simp only at e;subst e;split
 ·rename_i d;subst d;rfl
 ·rfl
def yQ (w:World):dd->Nat->Prop:=λ_ a=>a<w.heap.size
mutual
theorem Cy:∀{τ:ah} {l:TypeId} {k:abU} {q:Nat} {u:DataW A×List MemPlace},qs τ=true->dM P τ l->DataW.trod enc P w 0 (λ_=>true) true q l k=some u->∃c:τ.den,aN (yQ w) w τ k c []/\nU τ c
 |.int p,l,k,q,u,_,⟨a,_,_,_,_,h⟩,d=>by obtain⟨C,rfl,_,a4⟩:=DataW.trod_int h d;exact⟨C,⟨rfl,rfl⟩,a4⟩
 |.bool,l,k,q,u,_,⟨a,_,_,_,_,h⟩,d=>by obtain⟨D,rfl,_⟩:=DataW.trod_bool h d;exact⟨D,⟨rfl,rfl⟩,trivial⟩
 |.str,l,k,q,u,_,⟨a,_,_,_,_,h⟩,d=>by obtain⟨ce,rfl,_,_⟩:=DataW.trod_string h d;exact⟨ce,⟨rfl,rfl⟩,trivial⟩
 |.a6 bs b,l,k,q,u,g,⟨a,S,_,_,_,_,h,t⟩,d=>by
  rcases DataW.trod_slice h d with⟨rfl,_⟩|⟨e,z,T,N,dl,C,rfl,rfl,_,_,av,cv,c1,H,_⟩
  ·exact⟨[],⟨rfl,none,0,rfl,aY _,λ_=>rfl,.inl rfl⟩,by simp[maxLen],ac⟩
  have G:=Dh t;have R:=t.pos;have M:∀a,a<z->∃c:b.den,∃f:abU,f.length=b.size/\w.cells? 0 (e.add (a*b.size)) b.size=some f/\aN (yQ w) w b f c []/\nU b c:=by
   intro a m;have i:=H a m;have v:N[a]?=some (N[a]'(by omega)):=be _
   rw[v] at i;obtain⟨f,r,E⟩:=c9.1 i;rw[G] at r;obtain⟨c,n,s⟩:=Cy (τ:=b) g t E;exact⟨c,f,n.len,r,n,s⟩
  have a0:∀p,p<=z->∃o:List b.den,o.length=p/\∀(a:Nat) (c:b.den),o[a]?=some c->∃f:abU,f.length=b.size/\w.cells? 0 (e.add (a*b.size)) b.size=some f/\aN (yQ w) w b f c []/\nU b c:=by
   intro p
   induction p with
   |zero=>intro _;exact⟨[],rfl,λa c d=>by simp at d⟩
   |succ p bl=>
    intro c2;obtain⟨o,i,v⟩:=bl U;obtain⟨c,f,r⟩:=M p U;refine⟨o++[c],by simp[i],λa K j=>?_⟩;rcases bb a o.length with m|m
    ·rw[nO m] at j;exact v a K j
    ·rw[o0 m] at j;have am:a=p:=by
      have:=(ey.1 j).1;simp at this;omega
     subst am;rw[i,Nat.sub_self] at j;simp only[iY,bH] at j;subst j;exact⟨f,r⟩
  obtain⟨o,i,v⟩:=a0 z (aY _);refine⟨o,⟨rfl,some e,T,by rw[i],by rw[i];exact av,(λd=>by cases d),?_⟩,by rw[i];omega,λc n=>?_⟩
  ·cases z with
   |zero=>exact .inl (CN.1 i)
   |succ z=>
    right;obtain⟨ds,co,_,Q,_⟩:=M 0 U;have ad:e.add (0*b.size)=e:=(by simp[Addr.add]);rw[ad] at Q;obtain⟨y,_,I,_⟩:=Di Q R;refine⟨e.block,e.off,by obtain⟨D,bB,ci⟩:=e;simp only at y;subst y;rfl,I,λa c n=>?_⟩;obtain⟨f,W,X,Y,_⟩:=v a c n;obtain⟨_,_,_,B⟩:=Di X R;refine⟨f,W,?_,Y⟩;have aj:(e.add (a*b.size)).block=e.block:=(by unfold Addr.add;split<;>rfl);have Z:(e.add (a*b.size)).off=e.off+a*b.size:=by
     unfold Addr.add;split
     ·rename_i ab;rw[ab];rfl
     ·rfl
    rw[aj,Z] at B;exact B
  ·obtain⟨a,m,rfl⟩:=fH.1 n;obtain⟨_,_,_,_,s⟩:=v a _ (be m);exact s
 |.ptr bs b,l,k,q,u,g,⟨a,S,_,_,_,_,h,t⟩,d=>by
  rcases DataW.trod_pointer h d with⟨rfl,_⟩|⟨e,V,c,C,rfl,rfl,_,r,E⟩
  ·exact⟨none,⟨rfl,rfl⟩,λc d=>by cases d⟩
  rw[Dh t] at r;obtain⟨K,j,s⟩:=Cy (τ:=b) g t E;obtain⟨y,_,I,B⟩:=Di r t.pos;refine⟨some K,⟨rfl,e.block,e.off,V,by obtain⟨D,bB,ci⟩:=e;simp only at y;subst y;rfl,I,j.len,B,j⟩,λc d=>by cases d;exact s⟩
 |.st b,l,k,q,u,g,⟨_,a,L,d0,m,a3,_,_,h,x,_⟩,d=>by
  obtain⟨o,C,rfl,_,ap,bd,H⟩:=DataW.trod_struct h d;have G:P.cellsOf l=b.size:=(by unfold Program.cellsOf;rw[m];simp[a3]);obtain⟨c,n,s⟩:=M4 (τ:=b) (fs:=L.toList) (cs:=k) g x (by rw[ip,<-G];exact ap) (λJ O x=>by
   have x:L[J]?=some O:=(by simpa using x);have:=H J O x;have an:J<o.length:=(by rw[bd];exact(md.1 x).1);rw[be an] at this;exact⟨_,_,this⟩)
  rw[ml] at n;exact⟨c,n,s⟩
 |.osl _,_,_,_,_,g,_,_=>by cases g
 |.optr _,_,_,_,_,g,_,_=>by cases g
 |.pr _ _,_,_,_,_,_,F,_=>F.elim
 |.nil,_,_,_,_,_,F,_=>F.elim
 |.de,_,_,_,_,g,_,_=>by cases g
theorem M4:∀{τ:ah} {fs:List Field} {c:Nat} {g cs:abU},qs τ=true->hn P τ fs c g->cs.length=c+τ.size->(∀(f:Nat) b,fs[f]?=some b->∃(k:Nat) (l:DataW A×List MemPlace),DataW.trod enc P w 0 (λ_=>true) true k b.type ((cs.drop b.offset).take (P.cellsOf b.type))=some l)->∃m:τ.den,aN (yQ w) w τ (cs.drop c) m []/\nU τ m
 |.pr z B,b::D,c,g,cs,d,q,e,j=>by simp only[qs,bg] at d;obtain⟨o,h,C,_,p⟩:=q;obtain⟨k,l,i⟩:=j 0 b rfl;rw[o,Dh h] at i;obtain⟨x,s,t⟩:=Cy d.1 h i;obtain⟨y,u,v⟩:=M4 (cs:=cs) d.2 p (by rw[e];simp only[ah.size];omega) (λf n r=>j (f+1) n r);exact⟨(x,y),⟨[],[],rfl,s,by rw[oU];exact u⟩,t,v⟩
 |.nil,[],c,g,cs,_,_,e,_=>by refine⟨(),⟨rfl,?_⟩,trivial⟩;rw[List.drop_eq_nil_iff];simp only[ah.size] at e;omega
 |.pr _ _,[],_,_,_,_,a,_,_=>a.elim
 |.nil,_::_,_,_,_,_,a,_,_=>a.elim
 |.int _,fs,_,_,_,_,a,_,_=>by cases fs<;>exact a.elim
 |.bool,fs,_,_,_,_,a,_,_=>by cases fs<;>exact a.elim
 |.str,fs,_,_,_,_,a,_,_=>by cases fs<;>exact a.elim
 |.a6 _ _,fs,_,_,_,_,a,_,_=>by cases fs<;>exact a.elim
 |.ptr _ _,fs,_,_,_,_,a,_,_=>by cases fs<;>exact a.elim
 |.osl _,fs,_,_,_,_,a,_,_=>by cases fs<;>exact a.elim
 |.optr _,fs,_,_,_,_,a,_,_=>by cases fs<;>exact a.elim
 |.st _,fs,_,_,_,_,a,_,_=>by cases fs<;>exact a.elim
 |.de,fs,_,_,_,_,a,_,_=>by cases fs<;>exact a.elim
end
theorem YS {g:ah} {h:TypeId} (l:qs g=true) (e:dM P g h) (c:Value.okWide P w .any a h d):d=bL g d.cells.toList:=by
 cases g with
 |int r=>
  obtain⟨f,_,_,_,_,b⟩:=e;obtain⟨i,rfl⟩:=Go.WideShapes.okWide_int b c;rfl
 |bool=>
  obtain⟨f,_,_,_,_,b⟩:=e;obtain⟨i,rfl⟩:=Go.WideShapes.okWide_bool b c;rfl
 |str=>
  obtain⟨f,_,_,_,_,b⟩:=e;obtain⟨i,rfl⟩:=Go.WideShapes.okWide_string b c;rfl
 |a6 m j=>
  obtain⟨f,k,_,_,_,_,b,_⟩:=e;obtain⟨n,s,o,rfl⟩:=Go.WideShapes.okWide_slice b c;rfl
 |ptr m j=>
  obtain⟨f,k,_,_,_,_,b,_⟩:=e;simp only[Value.okWide,b,Cell.okWide] at c;cases d<;>first|rfl|simp_all [Cell.ok]
 |st j=>
  obtain⟨_,f,q,t,_,_,_,_,b,_,_⟩:=e;simp only[Value.okWide,b] at c;obtain⟨p,rfl,_⟩:=c;rfl
 |_=>first|(cases l;done)|exact e.elim
def uc (P:Program):List fP->abT->Bool
 |[],[]=>true
 |.v a::c,b::d=>qs a&&gD P a b&&uc P c d
 |_,_=>false
def nV:(d:List fP)->fV d->Prop
 |[],_=>True
 |.v e::b,a=>nU e a.1/\nV b a.2
 |.m _::b,a=>nV b a.2
 |.o _::b,a=>nV b a.2
 |.c _ _::b,a=>nV b a.2
 |.n::b,a=>nV b a.2
 |.w _::b,a=>nV b a.2
 |.s _ _::b,a=>nV b a.2
theorem HG {P:Program}:∀{ps:List fP} {b:abT} {k:Nat},uc P ps b=true->iz k ps=none
 |[],_,_,_=>rfl
 |.v g::d,e::f,k,a=>by simp only[uc,bg] at a;exact HG (ps:=d) (k:=k+1) a.2
 |.v _::_,[],_,a=>by cases a
 |.m _::_,b,_,a=>by cases b<;>cases a
 |.o _::_,b,_,a=>by cases b<;>cases a
 |.c _ _::_,b,_,a=>by cases b<;>cases a
 |.n::_,b,_,a=>by cases b<;>cases a
 |.w _::_,b,_,a=>by cases b<;>cases a
 |.s _ _::_,b,_,a=>by cases b<;>cases a
def yb {b:Type}:List b->c6
 |[]=>[]
 |_::a=>[]::yb a
theorem Cd {b:Type}:∀a:List b,(yb a).flatten=[]
 |[]=>rfl
 |_::a=>by simp only[yb,iE,Cd a,fO]
theorem HI:∀{f:List fP} {l:abT} {base:Nat} {b:abU} {i:List (DataW A)} {r:List MemPlace},uc P f l=true->DataW.TrodAll enc P w 0 (λ_=>true) true l b i r->(∀(j:Nat) k g,l[j]?=some k->b[j]?=some g->Value.okWide P w .any base k g)->∃h:fV f,nV f h/\∀{x:Type} (d:hC f x),kF (vH (λd=>d<w.heap.size) (λ_=>False) w) (eV f h d) b (yb b)
 |[],[],base,b,i,r,_,q,_=>by cases b<;>cases i<;>first|exact⟨(),trivial,λ_=>trivial⟩|exact q.elim
 |.v U::Q,y::x,base,b,i,r,e,q,u=>by
  simp only[uc,bg] at e;obtain⟨⟨s,z⟩,B⟩:=e;obtain⟨g,T,M,N,R,S,rfl,rfl,rfl,p,C⟩:=Go.ChangeShapes.trodAll_cons q;obtain⟨O,p⟩:=p;have t:=gD.ok z;obtain⟨L,I,F⟩:=Cy s t p;obtain⟨h,D,E⟩:=HI B C (λj k K G H=>u (j+1) k K (by simpa using G) (by simpa using H));refine⟨(L,h),⟨F,D⟩,λd=>⟨⟨rfl,g.cells.toList,YS s t (u 0 y g rfl rfl),?_⟩,E d⟩⟩;exact I.mono (λJ d e=>⟨by cases J with
   |bx=>exact e
   |dk=>exact .inl e,bU.refl _ _⟩) ac
 |[],_::_,_,_,_,_,a,_,_=>by cases a
 |.v _::_,[],_,_,_,_,a,_,_=>by cases a
 |.m _::_,_,_,_,_,_,a,_,_=>by cases a
 |.o _::_,_,_,_,_,_,a,_,_=>by cases a
 |.c _ _::_,_,_,_,_,_,a,_,_=>by cases a
 |.n::_,_,_,_,_,_,a,_,_=>by cases a
 |.w _::_,_,_,_,_,_,a,_,_=>by cases a
theorem M3 {P:Program} (k:laidOutB P=true) {i j:World} {o:Nat->Bool}:∀{f:abT} {e:abU} {d:List (DataW A)} {c:List MemPlace},(∀h∈f,P.readableRec h=true/\h<P.types.size)->DataW.TrodAll enc P i 0 (λ_=>true) true f e d c->(∀a∈c,i.sameAt j a)->(∀a∈c,o a.block=true)->DataW.TrodAll enc P j 0 o true f e d c
 |[],e,d,c,_,g,_,_=>by cases e<;>cases d<;>first|exact g|exact g.elim
 |T::f,e,d,c,l,g,m,n=>by obtain⟨y,z,w,x,s,t,rfl,rfl,rfl,p,q⟩:=Go.ChangeShapes.trodAll_cons g;obtain⟨u,v⟩:=l T ac;exact⟨s,t,Go.WideElems.Trod_stays k u v p (λa b=>m a (by simp[b])) (λa b=>n a (by simp[b])),M3 k (λh r=>l h (by simp[r])) q (λa b=>m a (by simp[b])) (λa b=>n a (by simp[b])),rfl⟩
theorem Vt {E:dY} {F:aF} {h:Func} {n:ChangeSpec} {T:TypeId} (a3:aD E F) (c2:laidOutB E.P=true) (d2:(h.params.toList.all λe=>E.P.readableRec e&&Nat.blt e E.P.types.size)=true) (X:uc E.P F.ps h.params.toList=true) (_hrs:F.rs=[.bool]) (O:h.resultTypes=#[T]) (v:E.P.underlying T=some .bool) (Z:n.vars=[]) (ed:∀d:List (DataW A),d.length=h.params.toList.length->n.fn A d=⟨[.lit (.bool true)],d,[]⟩) (d8:∀u,nV F.ps u->∃b,F.vy u=some b/\hB F.rs (gU F.ps b)=[⟨.bool,true⟩]) {M av bB an:Bool} {c:World} {q:abS} {d C:List (DataW A)} {j:List MemPlace} (ek:∀(s:Nat) e p,h.params[s]?=some e->q[s]?=some p->Value.okWide E.P c .any a e p) (Q:DataW.Whole enc E.P h.params.toList n.vars M c q.toList d C j) (a4:jL E (λb=>b<c.heap.size) c):Calls E.P F.f q c λN g=>∃p,N=.returned p/\n.post enc E.P h M av bB an c q p g:=by
 have R:=Q;obtain⟨y,eq,D,G,W,ci,dl⟩:=Q;rw[Z] at G;have co:C=[]/\eq=[]:=by cases C with
  |nil=>exact⟨rfl,G⟩
  |cons=>exact G.elim
 obtain⟨rfl,rfl⟩:=co;rw[mj] at W;subst W;obtain⟨u,d1,bs⟩:=HI (w:=c) (base:=a) X D (λs e p K L=>ek s e p (by simpa using K) (by simpa using L));obtain⟨b,bl,d4⟩:=d8 u d1;have c1:∀{t:abT} {B:abU} {d:List (DataW A)} {y:List MemPlace},DataW.TrodAll enc E.P c 0 (λ_=>true) true t B d y->d.length=t.length:=by
  intro t
  induction t with
  |nil=>intro B d y k;cases B<;>cases d<;>first|rfl|exact k.elim
  |cons T t el=>
   intro B d y k;obtain⟨p,f5,fs,ft,f3,f4,rfl,rfl,rfl,f2,a0⟩:=Go.ChangeShapes.trodAll_cons k;simp[el a0]
 have H:n.fn A (d++[])=⟨[.lit (.bool true)],d,[]⟩:=(by rw[mj];exact ed d (c1 D));have J:=R.lt;have U:=a3.2 u b bl c (λb=>b<c.heap.size) (λ_=>False) q.toList (yb q.toList) (λb k=>k.elim id (λk=>k.elim)) (bs b) (by rw[Cd];exact List.nodup_nil) (by rw[Cd];simp) (by rw[yl,HG X];trivial);rw[Array.toArray_toList] at U;refine(U a4).mono ?_;rintro N g ⟨ex,f0,x,z,rfl,l⟩;refine⟨_,rfl,?_⟩;have d6:ox z=.bool true:=by
  have:=l.res;rw[d4] at this;cases z with
  |nil=>cases x<;>exact this.elim
  |cons p z=>
   cases x with
   |nil=>exact this.elim
   |cons f1 x=>
    obtain⟨⟨fp,L,_,rfl⟩,d5⟩:=this;cases z with
    |nil=>exact L
    |cons=>cases x<;>exact d5.elim
 have I:∀b,b<c.heap.size->g.heap[b]?=c.heap[b]?:=λb v=>l.heap b v (by rw[Cd];simp);have d7:∀i∈j,c.sameAt g i:=λi r=>by
  have:=I i.block (J i r);cases i with
  |cell b m=>show g.cell? _=c.cell? _;unfold World.cell?;rw[show g.heap[b]?=c.heap[b]? from this]
  |map b=>exact this
 have ce:∀b m,MemPlace.cell b m∈j->g.frozen? ⟨b,m,none⟩=c.frozen? ⟨b,m,none⟩:=λb m r=>(by unfold World.frozen?;rw[show g.heap[b]?=c.heap[b]? from I b (J _ r)]);rw[d6];have d3:∀e∈h.params.toList,E.P.readableRec e=true/\e<E.P.types.size:=λe K=>(by have:=eM.1 d2 e K;simp only[bg] at this;exact⟨this.1,eT this.2⟩);have S:∀o:Nat->Bool,(∀i∈j,o i.block=true)->DataW.TrodAll enc E.P g 0 o true h.params.toList q.toList (n.fn A (d++[])).args j:=λo d9=>(by rw[H];exact M3 c2 d3 D d7 d9);have Y:∀(b:Nat) (o:Nat->Bool) (V:Bool),DataW.TrodAll enc E.P g b o V h.resultTypes.toList ((Value.bool true).resultList h.resultTypes.size) (n.fn A (d++[])).results []:=λb o V=>(by rw[H,O];exact Go.ChangeShapes.trodAll_mk1 ⟨1,by unfold DataW.trod;rw[v];rfl⟩);have ab:∀o:Nat->Bool,DataW.TrodVars enc E.P g o n.vars (n.fn A (d++[])).vars []:=λo=>(by rw[H,Z];rfl);have ds:∀(s:Nat) (e:TypeId) (am:Value),h.resultTypes[s]?=some e->((Value.bool true).resultList h.resultTypes.size)[s]?=some am->Value.okWide E.P g .any 0 e am:=
  Go.RowKit.ok_one O rfl (Go.RowKit.okWide_bool_mk v true)
 have d0:∀i∈j,(λb=>decide (b<c.heap.size)) i.block=true:=λi r=>(by simpa using J i r);have cv:c.keptBut g (λ_=>False):=by
  refine⟨l.os,l.output,λad cs=>?_⟩;rw[I ad cs];cases c.heap[ad]? with
  |none=>rfl
  |some em=>cases em with
   |cells ap e fT=>exact⟨rfl,rfl,rfl,λ_ _=>rfl⟩
   |map fz ap=>exact .inr ⟨rfl,rfl⟩
   |_=>rfl
 refine⟨d,[],j,[],j,[],R,Y _ _ _,S _ d0,ab _,World.keptBut_mono (λ_ k=>k.elim) cv,λ_=>?_⟩;refine⟨ds,_,_,([]++j)++[],⟨[]++j,[],Go.ChangeShapes.trodAll_append (S _ (λ_ _=>rfl)) (Y _ _ _),ab _,rfl,?_,?_⟩,?_⟩
 ·intro b m l;have l:MemPlace.cell b m∈j:=(by simpa using l);rw[ce b m l];exact ci b m l
 ·intro bd;simpa using dl bd
 ·intro i r _;simpa using r
end
end
section
inductive GI where
 |a
 |b (f:ab0)
 |c (f m:ab0)
def DO (a:Nat):Nat:=a/32+a %32*500000
abbrev ai (a:Nat):Nat×nW:=(a,.s (.ref a []))
abbrev aT (a:Nat):Nat×nW:=(a,.v (.int .i64))
inductive oK where
 |l
 |o (a:oK)
 |t (j:GQ) (a b:oK)
 |n (b:oK)
 |p (yq:mr) (m:GS) (a:oK)
 |k (l:ab0) (a:oK)
 |z (F:ab0) (a:oK)
 |d (L:List GI)
def Ck (b:Array Oper) (a:Nat) (f c:ab0):kc:=match b[a]? with
 |some d=>⟨a,dl d,d.looksAt b,ou b a,f,c⟩
 |none=>⟨a,[],[],[],f,c⟩
def AV (d:Array Oper):Nat->List GI->List kc
 |_,[]=>[]
 |i,.a::e=>Ck d i [] []::AV d (i+1) e
 |i,.b f::e=>Ck d i (f.map DO) []::AV d (i+1) e
 |i,.c f g::e=>Ck d i (f.map DO) (g.map DO)::AV d (i+1) e
def qS:Code->kX
 |.seq a b=>.two .none (qS a) (qS b)
 |.cond _ a b=>.two .none (qS a) (qS b)
 |.block _ a=>.one (qS a)
 |.region _ c true=>.draw ((List.range c.size).map λd=>Ck c d [] [])
 |_=>.leaf
def oK.ex:oK->Code->kX
 |.l,a=>qS a
 |.o b,.block _ a=>.one (b.ex a)
 |.t J b c,.seq a e=>.two J (b.ex a) (c.ex e)
 |.t J b c,.cond _ a e=>.two J (b.ex a) (c.ex e)
 |.n c,.seq a e=>.two .none (qS a) (c.ex e)
 |.n c,.cond _ a e=>.two .none (qS a) (c.ex e)
 |.p j h b,.loop a=>.loop j h (b.ex a)
 |.k f b,a=>.keep f (b.ex a)
 |.z g b,a=>.nq g (b.ex a)
 |.d f,.region _ i _=>.draw (AV i 0 f)
 |_,_=>.leaf
def yV (E:dY):Type:={a:List (Nat×aF)//∀b∈a,aD E b.2}
def aJ {E:dY}:yV E:=⟨[],MT⟩
def ao {E:dY} {a:aF} (c:aD E a) (b:yV E):yV E:=⟨(a.f,a)::b.1,aaX c b.2⟩
section
variable {E:dY} {f:Nat} {fn:Func} {ps:List fP} {C:List ah} {D:fV ps->Option (hC ps (kr C))}
theorem aD.q (d:yV E) (l:oK) (k:E.P.funcs[f]?=some fn) (j:∀(h:abS) (i:World),(callFunc f h).run E.P i=.ok (.enter f h) i) (g:List (Nat×ah):=[]) (e:ab2:=[]) (a:(fn.body.isSome&&Nat.ble ps.length fn.ntmps)=true:=by kernel_rfl) (c:∀b,Bn ⟨E.tt,d.1,g,fn.ntmps,iN 0 ps++mS (iz 0 ps),[],e,iz 0 ps,[],[],E.glob⟩ (l.ex (fn.body.getD .skip)) (fn.body.getD .skip) ps fn.results.toList C b=D b:=by intro b;kernel_rfl):aD E ⟨f,ps,C,D⟩:=
 have a:=bg _ _▸a
 aD.KG d.1 g e _ [] (λ_ c=>by cases c) k a.1 Array.toArray_toList.symm a.2 j d.2 c
end
end
section
def ae {α:Type} (c:Option α) (b:α->Prop):Prop:=∃a,c=some a/\b a
section
variable {α A σ ρ τ:Type}
theorem ae.af {b:α} {c:α->Prop}:ae (some b) c↔c b:=⟨λ⟨_,a,d⟩=>by cases a;exact d,λa=>⟨b,rfl,a⟩⟩
theorem ae.pN {a:α->Prop}:ae none a↔False:=⟨(λ⟨_,b,_⟩=>by cases b),False.elim⟩
theorem ae.bW {x:Option α} {b:α->Option A} {a:A->Prop}:ae (x.bind b) a↔ae x (λc=>ae (b c) a):=by
 cases x with
 |none=>simp only[Option.bind_none,ae.pN]
 |some c=>simp only[aG,ae.af]
theorem ae.xS {a:Option α} {c:α->A} {b:A->Prop}:ae (a.map c) b↔ae a (λd=>b (c d)):=by
 cases a with
 |none=>simp only[Option.map_none,ae.pN]
 |some d=>simp only[fe,ae.af]
theorem ae.bV {b:Bool} {c d:Option α} {a:α->Prop}:ae (bif b then c else d) a↔(b=true->ae c a)/\(b=false->ae d a):=by cases b<;>simp
theorem ae.mono {c:Option α} {P b:α->Prop} (d:ae c P) (g:∀a,P a->b a):ae c b:=let⟨a,e,f⟩:=d;⟨a,e,g a f⟩
theorem ae.eq_iff {c:Option α} {b:α}:ae c (· =b)↔c=some b:=⟨λ⟨e,a,d⟩=>by rw[a,d],λa=>⟨b,a,rfl⟩⟩
theorem ae.Jj {b:List α} {d:α->Prop}:ae (aA b e) d↔∃(f:e.toNat<b.length),0<=e/\d b[e.toNat]:=by
 unfold aA;by_cases a:0<=e
 ·rw[if_pos a];by_cases c:e.toNat<b.length
  ·rw[be c,ae.af];simp[c,a]
  ·rw[fu U,ae.pN];simp[c]
 ·rw[if_neg a,ae.pN];simp[a]
theorem ae.hJ {b:List α} {c:α->Prop}:ae (aA b (a:Int)) c↔∃(d:a<b.length),c b[a]:=by rw[ae.Jj];simp
theorem ae.od:ae (bh a e) k↔(0<=e/\e.toNat<a)/\k e.toNat:=by
 unfold bh;by_cases b:0<=e/\e.toNat<a
 ·rw[if_pos b,ae.af];simp[b]
 ·rw[if_neg b,ae.pN];simp[b]
theorem ae.q3 {c:Unit->Prop}:ae (bS a) c↔a<=fq/\c ():=by
 unfold bS;by_cases b:a<=fq
 ·rw[if_pos b,ae.af];simp[b]
 ·rw[if_neg b,ae.pN];simp[b]
theorem ae.va {a:Int}:ae (eo e a) k↔(0<=e/\e<=a/\a<=(fq:Int))/\k e.toNat:=by
 unfold eo;by_cases b:0<=e/\e<=a/\a<=(fq:Int)
 ·rw[if_pos b,ae.af];simp[b]
 ·rw[if_neg b,ae.pN];simp[b]
def a9 (d:List α) (c:Nat) (b:α->Option A):Option A:=match d[c]? with
 |some a=>b a
 |none=>none
theorem ae.n1 {c:List α} {e:α->Option A} {d:A->Prop}:ae (a9 c a e) d↔∃(b:a<c.length),ae (e c[a]) d:=by
 unfold a9;by_cases b:a<c.length
 ·rw[be b];simp[b]
 ·rw[fu U];simp[b,ae.pN]
theorem ae.loop {j:σ->Option (σ⊕ρ)} {i:ρ->Prop} (g:σ->Prop) (h:σ->Nat) {a:σ} (n:g a) (m:∀a,g a->ae (j a) (λ|.inl f=>g f/\h f<h a|.inr b=>i b)):ae (loop j a) i:=by
 have s:∀e a,h a<=e->g a->∃b,ih j (e+1) a=some b/\i b:=by
  intro e
  induction e with
  |zero=>
   intro a q k;obtain⟨l,d,c⟩:=m a k;cases l with
   |inl f=>have:=c.2;omega
   |inr b=>exact⟨b,by simp only[ih,d],c⟩
  |succ e r=>
   intro a q k;obtain⟨l,d,c⟩:=m a k;cases l with
   |inl f=>
    obtain⟨b,o,p⟩:=r f (by have:=c.2;omega) c.1;exact⟨b,by rw[ih,d];exact o,p⟩
   |inr b=>exact⟨b,by simp only[ih,d],c⟩
 obtain⟨b,d,c⟩:=s (h a) a (aY _) n;exact⟨b,xO.2 ⟨_,d⟩,c⟩
theorem ae.for {j:Int×τ->Option ((Int×τ)⊕ρ)} {i:ρ->Prop} (b:Nat) (d:Nat->τ->Prop) {i0:Nat} {p:τ} (t:e=(i0:Int)) (q:d i0 p) (n:i0<=b) (v:∀a c,i0<=a->a<b->d a c->ae (j ((a:Int),c)) (λ|.inl k=>k.1=((a+1:Nat):Int)/\d (a+1) k.2|.inr g=>i g)) (s:∀c,d b c->ae (j ((b:Int),c)) (λ|.inl _=>False|.inr g=>i g)):ae (hT.loop j (e,p)) i:=by
 subst t;refine ae.loop (λh=>∃a:Nat,i0<=a/\a<=b/\h.1=(a:Int)/\d a h.2) (λh=>b-h.1.toNat) ⟨i0,aY _,n,rfl,q⟩ ?_;rintro⟨w,c⟩ ⟨a,u,n,rfl,o⟩;rcases bb a b with m|m
 ·refine(v a c u m o).mono ?_;rintro(⟨x,y⟩|g) f
  ·obtain⟨l,r⟩:=f;simp only at l;subst l;exact⟨⟨a+1,U,U,rfl,r⟩,by show b-Int.toNat _<b-Int.toNat _;simp;omega⟩
  ·exact f
 ·obtain rfl:a=b:=U;refine(s c o).mono ?_;rintro(k|g) f
  ·exact f.elim
  ·exact f
end
theorem abw (a:Int):IntKind.i64.wrap a=if(9223372036854775808:Int)<=a %18446744073709551616 then a %18446744073709551616-18446744073709551616 else a %18446744073709551616:=by
 unfold IntKind.wrap;by_cases b:(9223372036854775808:Int)<=a %18446744073709551616
 ·rw[if_pos b];exact if_pos (show(true&&decide (a %18446744073709551616>=(9223372036854775808:Int)))=true by simp[b])
 ·rw[if_neg b];exact if_neg (show¬(true&&decide (a %18446744073709551616>=(9223372036854775808:Int)))=true by simp[b])
theorem wrap64 {x:Int} (a:-9223372036854775808<=x) (b:x<=9223372036854775807):IntKind.i64.wrap x=x:=by rw[abw];split<;>omega
theorem fE (b:a<9223372036854775807):IntKind.i64.wrap ((a:Int)+1)=((a+1:Nat):Int):=by rw[wrap64 U U];simp
end
section
abbrev ax {α:Type} (a:List α):Int:=((a.length:Nat):Int)
abbrev aw (a:Int):Int:=IntKind.i64.wrap a
abbrev aR (a:Int):Int:=IntKind.u64.wrap a
abbrev dg (a:Int):Int:=IntKind.u32.wrap a
abbrev aZ (a:Int):Int:=IntKind.i64.wrap (a+1)
def rd {α A:Type} (a:List α) (c:Int) (e:α->Option A):Option A:=(bh a.length c).bind λd=>(a9 a d λb=>some b).bind e
def wr {α A:Type} (a:List α) (c:Int) (e:α) (d:List α->Option A):Option A:=(bh a.length c).bind λb=>(a9 a b λ_=>some (a.set b e)).bind d
section
variable {α A:Type}
theorem lr {b:List α} (d:a<b.length) (c:α->Option A):rd b (a:Int) c=c b[a]:=by unfold rd bh;rw[if_pos ⟨U,by simpa using d⟩];show(a9 b (a:Int).toNat _).bind c=_;unfold a9;rw[dc,be d];rfl
theorem nK {b:List α} (d:a<b.length) (e:α) (c:List α->Option A):wr b (a:Int) e c=c (b.set a e):=by unfold wr bh;rw[if_pos ⟨U,by simpa using d⟩];show(a9 b (a:Int).toNat _).bind c=_;unfold a9;rw[dc,be d];rfl
end
end
def zN:cM->abY:=λ(e,h,_)=>(loop (σ:=cW) (ρ:=cP) (λ(f,c,_)=>bif decide (c<((e.length:Nat):Int)) then(Option.bind (α:=cY⊕cu) ((aA e c).bind λd=>Option.bind (α:=Unit⊕(cY⊕cu)) (bif decide (d<=f)==false then bif decide (d>=h) then some (.inr (.inr (.inr (.inr (false,()))))) else some (.inl ()) else some (.inr (.inr (.inr (.inr (false,())))))) λa=>match a with
 |.inl _=>(some (.inl (d,())))
 |.inr b=>some b) λa=>match a with
 |.inl (g,_)=>(some (.inl (g,IntKind.i64.wrap (c+(1:Int)),())))
 |.inr b=>some b) else some (.inr (.inl ()))) ((-1:Int),(0:Int),())).bind λa=>match a with
 |.inl _=>(some (true,()))
 |.inr b=>some b
def qz:cY->abY:=λ(a,_)=>some ((a !=a),())
def sl:cW->abY:=λ(a,b,_)=>(qz (a,())).bind λ(c,_)=>(bif c==true then(qz (b,())).bind λ(aU,_)=>bif (!aU)==false then some (decide (a<b),()) else some (true,()) else some (decide (a<b),()))
def Aj:cY->abY:=λ(a,_)=>some ((a !=a),())
def ss:cM->Option cT:=λ(b,e,_)=>(loop (σ:=cW) (ρ:=cY) (λ(c,d,_)=>bif decide (c<d) then(dm IntKind.u64 (IntKind.u64.wrap (IntKind.i64.wrap (c+d))) (1:Int)).bind λf=>(aA b (IntKind.i64.wrap f)).bind λk=>(sl (k,e,())).bind λ(i,_)=>bif i then some (.inl (IntKind.i64.wrap (IntKind.i64.wrap f+(1:Int)),d,())) else some (.inl (c,IntKind.i64.wrap f,())) else some (.inr (c,()))) ((0:Int),((b.length:Nat):Int),())).bind λ(a,_)=>(bif decide (a<((b.length:Nat):Int))==true then(aA b a).bind λl=>bif (l==e)==false then(aA b a).bind λj=>(Aj (j,())).bind λ(g,_)=>bif g==true then(Aj (e,())).bind λ(h,_)=>some (a,h,()) else some (a,false,()) else some (a,true,()) else some (a,false,()))
def uw:(cI×Int×Int×Unit)->abY:=λ(a,c,d,_)=>(aA a.1 c).bind λe=>(ss (e,d,())).bind λ(_,b,_)=>some (b,())
def uv:cC->abZ:=λ(a,_)=>(bif decide ((((a.1).length:Nat):Int)>(200:Int)) then some ((6:Int),()) else((loop (σ:=cY) (ρ:=cR) (λ(d,_)=>bif decide (d<(((a.1).length:Nat):Int)) then(Option.bind (α:=Unit⊕cB) ((aA a.1 d).bind λj=>(zN (j,(((a.1).length:Nat):Int),())).bind λ(aU,_)=>bif (!aU)==false then(uw (a,d,d,())).bind λ(i,_)=>bif i then some (.inr (.inr (.inr ((1:Int),())))) else some (.inl ()) else some (.inr (.inr (.inr ((1:Int),()))))) λb=>match b with
 |.inl _=>(some (.inl (IntKind.i64.wrap (d+(1:Int)),())))
 |.inr c=>some c) else some (.inr (.inl ()))) ((0:Int),())).bind λb=>match b with
 |.inl _=>((loop (σ:=cY) (ρ:=cR) (λ(e,_)=>bif decide (e<(((a.1).length:Nat):Int)) then((aA a.1 e).bind λg=>(loop (σ:=cY) (ρ:=cq) (λ(f,_)=>bif decide (f<((g.length:Nat):Int)) then(aA g f).bind λk=>(uw (a,k,e,())).bind λ(h,_)=>bif !h then some (.inr (.inr (.inr (.inr ((1:Int),()))))) else some (.inl (IntKind.i64.wrap (f+(1:Int)),())) else some (.inr (.inl ()))) ((0:Int),())).bind λb=>match b with
 |.inl _=>(some (.inl (IntKind.i64.wrap (e+(1:Int)),())))
 |.inr c=>some c) else some (.inr (.inl ()))) ((0:Int),())).bind λb=>match b with
 |.inl _=>(some ((0:Int),()))
 |.inr c=>some c)
 |.inr c=>some c))
def zH:cY->Option cx:=λ(b,_)=>(eo b b).bind λh=>(eo b b).bind λi=>(loop (σ:=cr) (ρ:=cx) (λ(d,a,_)=>bif decide (d<b) then(bh (a.1).length d).bind λf=>((a9 a.1 f λ_=>some ((a.1).set f (-1:Int))).map λm=>(m,a.2)).bind λc=>(bh (c.2.1).length d).bind λe=>(((a9 c.2.1 e λ_=>some ((c.2.1).set e (-1:Int))).map λj=>(j,c.2.2)).map λk=>(c.1,k)).bind λl=>some (.inl (IntKind.i64.wrap (d+(1:Int)),l,())) else some (.inr (a,()))) ((0:Int),(List.replicate h (0:Int),(List.replicate i (0:Int),())),())).bind λ(g,_)=>some (g,())
def zG:(cF×Int×Int×Unit)->Option cx:=λ(j,m,e,_)=>(loop (σ:=cr) (ρ:=cx) (λ(b,d,_)=>Option.bind (α:=cx⊕(cr⊕cx)) (bif (b !=(-1:Int))==true then bif decide (b<e) then some (.inl (d,())) else some (.inr (.inr (d,()))) else some (.inr (.inr (d,())))) λo=>match o with
 |.inl (a,_)=>((bh (a.2.1).length b).bind λn=>(a9 a.2.1 n λi=>some i).bind λh=>(bh (a.2.1).length b).bind λf=>(((a9 a.2.1 f λ_=>some ((a.2.1).set f e)).map λq=>(q,a.2.2)).map λr=>(a.1,r)).bind λc=>Option.bind (α:=cx) (bif h==(-1:Int) then(bh (c.1).length b).bind λg=>((a9 c.1 g λ_=>some ((c.1).set g e)).map λs=>(s,c.2)).bind λt=>some (t,()) else some (c,())) λ(k,_)=>some (.inl (h,k,())))
 |.inr p=>some p) (m,j,())).bind λ(l,_)=>some (l,())
def zF:cC->Option cM:=λ(a,_)=>(uv (a,())).bind λ(f,_)=>(bif f !=(0:Int) then some ([],f,()) else(zH ((((a.1).length:Nat):Int),())).bind λ(k,_)=>(loop (σ:=cr) (ρ:=cx) (λ(b,d,_)=>bif decide (b<(((a.1).length:Nat):Int)) then(aA a.1 b).bind λg=>(loop (σ:=cr) (ρ:=cx) (λ(c,e,_)=>bif decide (c<((g.length:Nat):Int)) then(aA g c).bind λl=>(zG (e,l,b,())).bind λ(j,_)=>some (.inl (IntKind.i64.wrap (c+(1:Int)),j,())) else some (.inr (e,()))) ((0:Int),d,())).bind λ(h,_)=>some (.inl (IntKind.i64.wrap (b+(1:Int)),h,())) else some (.inr (d,()))) ((0:Int),k,())).bind λ(i,_)=>some (i.1,(0:Int),()))
def AQ:(cI×ab1×Int×Unit)->Option cU:=λ(q,x,b,_)=>(eo (IntKind.i64.wrap (b+(1:Int))) (IntKind.i64.wrap (b+(1:Int)))).bind λh=>(bh (List.replicate h false).length b).bind λj=>(a9 (List.replicate h false) j λ_=>some ((List.replicate h false).set j true)).bind λE=>(aA q.1 b).bind λn=>(loop (σ:=cK) (ρ:=cS) (λ(i,l,_)=>bif decide (i<((n.length:Nat):Int)) then(aA n i).bind λA=>(loop (σ:=cK) (ρ:=cS) (λ(c,a,_)=>Option.bind (α:=cS⊕cl) (bif decide (c>=(0:Int))==true then bif decide (c<b)==true then(bh a.length c).bind λr=>(a9 a r λo=>some o).bind λB=>bif !B then some (.inl (a,())) else some (.inr (.inr (a,()))) else some (.inr (.inr (a,()))) else some (.inr (.inr (a,())))) λy=>match y with
 |.inl (g,_)=>((bh g.length c).bind λk=>(a9 g k λ_=>some (g.set k true)).bind λF=>(aA x c).bind λC=>some (.inl (C,F,())))
 |.inr z=>some z) (A,l,())).bind λ(t,_)=>some (.inl (IntKind.i64.wrap (i+(1:Int)),t,())) else some (.inr (l,()))) ((0:Int),E,())).bind λ(m,_)=>(loop (σ:=(Int×abX×ab1×Unit)) (ρ:=cU) (λ(d,e,f,_)=>bif decide (d<((m.length:Nat):Int)) then Option.bind (α:=(abX×ab1×Unit)) ((bh e.length d).bind λs=>(a9 e s λp=>some p).bind λD=>bif D then(bS (f.length+([d]).length)).bind λ_=>some (e,(f++[d]),()) else some (e,f,())) λ(u,v,_)=>some (.inl (IntKind.i64.wrap (d+(1:Int)),u,v,())) else some (.inr (f,()))) ((0:Int),m,[],())).bind λ(w,_)=>some (w,())
def AP:cC->Option cG:=λ(g,_)=>(zF (g,())).bind λ(d,j,_)=>(bif j !=(0:Int) then some ([],j,()) else(eo ((d.length:Nat):Int) ((d.length:Nat):Int)).bind λq=>(loop (σ:=(Int×c7×Unit)) (ρ:=cI) (λ(b,i,_)=>bif decide (b<((d.length:Nat):Int)) then(AQ (g,d,b,())).bind λ(k,_)=>(loop (σ:=(Int×c7×ab1×Unit)) (ρ:=cI) (λ(e,a,f,_)=>bif decide (e<((k.length:Nat):Int)) then(bh f.length e).bind λp=>(a9 f p λm=>some m).bind λl=>(bh a.length l).bind λh=>(a9 a h λn=>some n).bind λt=>(bS (t.length+([b]).length)).bind λ_=>(bh a.length l).bind λc=>bif Nat.beq h c&&true then(a9 a c λo=>some o).bind λu=>(a9 a c λ_=>some (a.set c (u++[b]))).bind λv=>
 some (.inl (IntKind.i64.wrap (e+(1:Int)),v,f,())) else none else some (.inr (a,()))) ((0:Int),i,k,())).bind λ(r,_)=>some (.inl (IntKind.i64.wrap (b+(1:Int)),r,())) else some (.inr (i,()))) ((0:Int),List.replicate q [],())).bind λ(s,_)=>some (s,(0:Int),()))
def sw:(ab1×ab1×Unit)->abY:=λ(b,c,_)=>(bif ((b.length:Nat):Int)!=((c.length:Nat):Int) then some (false,()) else((loop (σ:=cY) (ρ:=cP) (λ(a,_)=>bif decide (a<((b.length:Nat):Int)) then(aA b a).bind λf=>(aA c a).bind λg=>bif f !=g then some (.inr (.inr (false,()))) else some (.inl (IntKind.i64.wrap (a+(1:Int)),())) else some (.inr (.inl ()))) ((0:Int),())).bind λd=>match d with
 |.inl _=>(some (true,()))
 |.inr e=>some e))
def Ao:cU->abY:=λ(b,_)=>(loop (σ:=cY) (ρ:=cP) (λ(a,_)=>bif decide (a<((b.length:Nat):Int)) then(aA b a).bind λe=>(aA b (IntKind.i64.wrap (a-(1:Int)))).bind λf=>bif decide (e<=f) then some (.inr (.inr (false,()))) else some (.inl (IntKind.i64.wrap (a+(1:Int)),())) else some (.inr (.inl ()))) ((1:Int),())).bind λc=>match c with
 |.inl _=>(some (true,()))
 |.inr d=>some d
def xd:cH->Option cC:=λ(f,_)=>(loop (σ:=ca) (ρ:=cb) (λ(b,l,i,_)=>bif decide (b<((f.length:Nat):Int)) then(loop (σ:=(Int×cI×cI×ab1×Unit)) (ρ:=b7) (λ(a,e,c,d,_)=>bif decide (a<((f.length:Nat):Int)) then Option.bind (α:=b7) (Option.bind (α:=(Bool×cI×cI×ab1×Unit)) (bif (b !=a)==true then(aA f b).bind λt=>(aA t a).bind λu=>bif u==false then(aA f a).bind λv=>(aA v b).bind λw=>some (w,e,c,d,()) else some (true,e,c,d,()) else some (false,e,c,d,())) λ(q,m,j,h,_)=>
 bif q then(bS (h.length+([a]).length)).bind λ_=>some (m,j,(h++[a]),()) else some (m,j,h,())) λ(r,n,p,_)=>some (.inl (IntKind.i64.wrap (a+(1:Int)),r,n,p,())) else some (.inr (e,c,d,()))) ((0:Int),l,i,[],())).bind λ(s,g,k,_)=>(bS ((g.1).length+([k]).length)).bind λ_=>some (.inl (IntKind.i64.wrap (b+(1:Int)),s,((g.1++[k]),g.2),())) else some (.inr (l,i,()))) ((0:Int),([],()),([],()),())).bind λ(_,o,_)=>some (o,())
def w3:cM->abY:=λ(b,e,_)=>(loop (σ:=cY) (ρ:=cP) (λ(a,_)=>bif decide (a<((b.length:Nat):Int)) then(aA b a).bind λf=>bif f==e then some (.inr (.inr (true,()))) else some (.inl (IntKind.i64.wrap (a+(1:Int)),())) else some (.inr (.inl ()))) ((0:Int),())).bind λc=>match c with
 |.inl _=>(some (false,()))
 |.inr d=>some d
def uM:cC->abZ:=λ(a,_)=>(bif decide ((((a.1).length:Nat):Int)>(200:Int)) then some ((6:Int),()) else((loop (σ:=cY) (ρ:=cR) (λ(b,_)=>bif decide (b<(((a.1).length:Nat):Int)) then(aA a.1 b).bind λh=>(Ao (h,())).bind λ(aU,_)=>bif !aU then some (.inr (.inr ((1:Int),()))) else((loop (σ:=cY) (ρ:=cq) (λ(f,_)=>(aA a.1 b).bind λi=>bif decide (f<((i.length:Nat):Int)) then(Option.bind (α:=Unit⊕(cY⊕cq)) ((aA a.1 b).bind λj=>(aA j f).bind λe=>bif decide (e<(0:Int))==false then bif decide (e>=(((a.1).length:Nat):Int))==false then bif (e==b)==false then(aA a.1 e).bind λk=>(w3 (k,b,())).bind λ(g,_)=>bif !g then some (.inr (.inr (.inr (.inr (.inr ((1:Int),())))))) else some (.inl ()) else some (.inr (.inr (.inr (.inr (.inr ((1:Int),())))))) else some (.inr (.inr (.inr (.inr (.inr ((1:Int),())))))) else some (.inr (.inr (.inr (.inr (.inr ((1:Int),()))))))) λc=>match c with
 |.inl _=>(some (.inl (IntKind.i64.wrap (f+(1:Int)),())))
 |.inr d=>some d) else some (.inr (.inl ()))) ((0:Int),())).bind λc=>match c with
 |.inl _=>(some (.inl (IntKind.i64.wrap (b+(1:Int)),())))
 |.inr d=>some d) else some (.inr (.inl ()))) ((0:Int),())).bind λc=>match c with
 |.inl _=>(some ((0:Int),()))
 |.inr d=>some d))
def AI:cM->abY:=λ(b,e,_)=>(loop (σ:=cY) (ρ:=cP) (λ(a,_)=>bif decide (a<((b.length:Nat):Int)) then(Option.bind (α:=Unit⊕cA) ((aA b a).bind λf=>bif decide (f<(0:Int))==false then(aA b a).bind λg=>bif decide (g>=e) then some (.inr (.inr (.inr (false,())))) else some (.inl ()) else some (.inr (.inr (.inr (false,()))))) λc=>match c with
 |.inl _=>(some (.inl (IntKind.i64.wrap (a+(1:Int)),())))
 |.inr d=>some d) else some (.inr (.inl ()))) ((0:Int),())).bind λc=>match c with
 |.inl _=>(some (true,()))
 |.inr d=>some d
def AJ:cU->abY:=λ(b,_)=>(loop (σ:=cY) (ρ:=cP) (λ(a,_)=>bif decide (a<((b.length:Nat):Int)) then((some (0)).bind λc=>(fU a).bind λd=>(gj c d b.length).map λ_=>(c,d)).bind λe=>(aA b a).bind λi=>(w3 (((b.take e.2).drop e.1),i,())).bind λ(h,_)=>bif h then some (.inr (.inr (true,()))) else some (.inl (IntKind.i64.wrap (a+(1:Int)),())) else some (.inr (.inl ()))) ((0:Int),())).bind λf=>match f with
 |.inl _=>(some (false,()))
 |.inr g=>some g
def xe:cC->Option cH:=λ(a,_)=>(loop (σ:=cD) (ρ:=cH) (λ(c,g,_)=>bif decide (c<(((a.1).length:Nat):Int)) then(eo (((a.1).length:Nat):Int) (((a.1).length:Nat):Int)).bind λj=>(loop (σ:=(Int×c5×abX×Unit)) (ρ:=(c5×abX×Unit)) (λ(d,h,b,_)=>(aA a.1 c).bind λm=>bif decide (d<((m.length:Nat):Int)) then(aA a.1 c).bind λn=>(aA n d).bind λl=>(bh b.length l).bind λe=>(a9 b e λ_=>some (b.set e true)).bind λo=>some (.inl (IntKind.i64.wrap (d+(1:Int)),h,o,())) else some (.inr (h,b,()))) ((0:Int),g,List.replicate j false,())).bind λ(f,i,_)=>(bS (f.length+([i]).length)).bind λ_=>some (.inl (IntKind.i64.wrap (c+(1:Int)),(f++[i]),())) else some (.inr (g,()))) ((0:Int),[],())).bind λ(k,_)=>
 some (k,())
def xf:cY->Option cH:=λ(a,_)=>(loop (σ:=cD) (ρ:=cH) (λ(c,b,_)=>bif decide (c<a) then(eo a a).bind λd=>(bS (b.length+([List.replicate d false]).length)).bind λ_=>some (.inl (IntKind.i64.wrap (c+(1:Int)),(b++[List.replicate d false]),())) else some (.inr (b,()))) ((0:Int),[],())).bind λ(e,_)=>some (e,())
def AK:cn->Option cy:=λ(e,a,_)=>(uM (e,())).bind λ(j,_)=>(bif j !=(0:Int) then some (([],()),j,()) else(AI (a,(((e.1).length:Nat):Int),())).bind λ(aU,_)=>bif !aU then some (([],()),(3:Int),()) else(AJ (a,())).bind λ(r,_)=>bif r then some (([],()),(90:Int),()) else(xe (e,())).bind λ(s,_)=>(xf (((a.length:Nat):Int),())).bind λ(t,_)=>(loop (σ:=cd) (ρ:=cf) (λ(c,l,i,_)=>bif decide (c<((a.length:Nat):Int)) then(loop (σ:=cd) (ρ:=cf) (λ(d,k,b,_)=>bif decide (d<((a.length:Nat):Int)) then(bh b.length c).bind λf=>(aA a c).bind λv=>
 (aA s v).bind λw=>(aA a d).bind λx=>(aA w x).bind λy=>((a9 b f λm=>some m).bind λn=>bh n.length d).bind λh=>(a9 b f λg=>(a9 g h λ_=>some (g.set h y)).map λz=>b.set f z).bind λA=>some (.inl (IntKind.i64.wrap (d+(1:Int)),k,A,())) else some (.inr (k,b,()))) ((0:Int),l,i,())).bind λ(u,o,_)=>some (.inl (IntKind.i64.wrap (c+(1:Int)),u,o,())) else some (.inr (l,i,()))) ((0:Int),([],()),t,())).bind λ(_,p,_)=>(xd (p,())).bind λ(q,_)=>some (q,(0:Int),()))
def AL:cC->Option ch:=λ(a,_)=>(xe (a,())).bind λ(c,_)=>(eo (((a.1).length:Nat):Int) (((a.1).length:Nat):Int)).bind λb=>some ((c,(List.replicate b false,())),())
def xh:(Option cw×Int×Unit)->Option cU:=λ(b,h,_)=>(loop (σ:=cN) (ρ:=cU) (λ(a,d,_)=>b.bind λj=>bif decide (a<(((j.1).length:Nat):Int)) then Option.bind (α:=cU) (Option.bind (α:=(Bool×ab1×Unit)) (b.bind λk=>(aA k.1 h).bind λl=>(aA l a).bind λm=>bif m==true then b.bind λn=>(aA n.2.1 a).bind λi=>some ((!i),d,()) else some (false,d,())) λ(g,c,_)=>bif g then(bS (c.length+([a]).length)).bind λ_=>some ((c++[a]),()) else some (c,())) λ(e,_)=>some (.inl (IntKind.i64.wrap (a+(1:Int)),e,())) else some (.inr (d,()))) ((0:Int),[],())).bind λ(f,_)=>some (f,())
def xg:(cw×Int×Unit)->Option ch:=λ(h,l,_)=>(xh (some h,l,())).bind λ(e,_)=>(loop (σ:=cg) (ρ:=ch) (λ(c,i,_)=>bif decide (c<((e.length:Nat):Int)) then(loop (σ:=cg) (ρ:=ch) (λ(d,a,_)=>bif decide (d<((e.length:Nat):Int)) then Option.bind (α:=ch) (bif c !=d then(aA e c).bind λr=>(bh (a.1).length r).bind λf=>(aA e d).bind λq=>((a9 a.1 f λm=>some m).bind λn=>bh n.length q).bind λj=>((a9 a.1 f λg=>(a9 g j λ_=>some (g.set j true)).map λs=>(a.1).set f s).map λt=>(t,a.2)).bind λu=>some (u,()) else some (a,())) λ(o,_)=>
 some (.inl (IntKind.i64.wrap (d+(1:Int)),o,())) else some (.inr (a,()))) ((0:Int),i,())).bind λ(p,_)=>some (.inl (IntKind.i64.wrap (c+(1:Int)),p,())) else some (.inr (i,()))) ((0:Int),h,())).bind λ(b,_)=>(bh (b.2.1).length l).bind λk=>(((a9 b.2.1 k λ_=>some ((b.2.1).set k true)).map λv=>(v,b.2.2)).map λw=>(b.1,w)).bind λx=>some (x,())
def xi:cC->Option cG:=λ(b,_)=>(uM (b,())).bind λ(e,_)=>(bif e !=(0:Int) then some ([],e,()) else(AL (b,())).bind λ(i,_)=>(loop (σ:=(Int×cw×c7×Unit)) (ρ:=cI) (λ(a,f,c,_)=>bif decide (a<(((b.1).length:Nat):Int)) then(xh (some f,a,())).bind λ(d,_)=>(bS (([a]).length+d.length)).bind λ_=>(bS (c.length+([([a]++d)]).length)).bind λ_=>(xg (f,a,())).bind λ(g,_)=>some (.inl (IntKind.i64.wrap (a+(1:Int)),g,(c++[([a]++d)]),())) else some (.inr (c,()))) ((0:Int),i,[],())).bind λ(h,_)=>some (h,(0:Int),()))
def z1:cW->Option cW:=λ(b,a,_)=>(dm IntKind.u64 b (32:Int)).bind λc=>(dm IntKind.u64 a (32:Int)).bind λd=>(dm IntKind.u64 (IntKind.u64.wrap (dq IntKind.u64 b (4294967295:Int)*dq IntKind.u64 a (4294967295:Int))) (32:Int)).bind λe=>(dm IntKind.u64 (IntKind.u64.wrap (IntKind.u64.wrap (c*dq IntKind.u64 a (4294967295:Int))+e)) (32:Int)).bind λf=>(dm IntKind.u64 (IntKind.u64.wrap (dq IntKind.u64 (IntKind.u64.wrap (IntKind.u64.wrap (c*dq IntKind.u64 a (4294967295:Int))+e)) (4294967295:Int)+IntKind.u64.wrap (dq IntKind.u64 b (4294967295:Int)*d))) (32:Int)).bind λg=>some (IntKind.u64.wrap (IntKind.u64.wrap (IntKind.u64.wrap (c*d)+f)+g),IntKind.u64.wrap (b*a),())
def Dx:cW->Option cW:=λ(b,c,_)=>(z1 (b,c,())).bind λ(a,aU,_)=>some (a,aU,())
def Ah:cM->Option cU:=λ(f,g,_)=>Option.bind (α:=Unit) (bif decide (g<(0:Int)) then none else some ()) λ_=>(Dx (IntKind.u64.wrap ((f.length:Nat):Int),IntKind.u64.wrap g,())).bind λ(m,aU,_)=>Option.bind (α:=Unit) (Option.bind (α:=cX) (bif decide (m>(0:Int))==false then some (decide (aU>(9223372036854775807:Int)),()) else some (true,())) λ(n,_)=>bif n then none else some ()) λ_=>(eo (IntKind.i64.wrap aU) (IntKind.i64.wrap aU)).bind λe=>(loop (σ:=cN) (ρ:=cU) (λ(b,a,_)=>bif decide (b<((a.length:Nat):Int)) then((fU b).bind λk=>(some (a.length)).bind λh=>(gj k h a.length).bind λ_=>(vq a.length).map λ_=>(k,h)).bind λc=>((some (0)).bind λi=>(fU b).bind λj=>(gj i j a.length).bind λ_=>(vq a.length).map λ_=>(i,j)).bind λd=>some (.inl (IntKind.i64.wrap (b+((min ((a.take d.2).drop d.1).length (c.2-c.1):Nat):Int)),hZ a ((a.take d.2).drop d.1) c.1 c.2,())) else
 some (.inr (a,()))) (((min f.length ((List.replicate e (0:Int)).length-0):Nat):Int),hZ (List.replicate e (0:Int)) f 0 (List.replicate e (0:Int)).length,())).bind λ(l,_)=>some (l,())
def AM:(List cz×Int×Unit)->Option cL:=λ(g,h,_)=>(loop (σ:=cN) (ρ:=cp) (λ(e,b,_)=>bif decide (e<((g.length:Nat):Int)) then(Option.bind (α:=cU⊕b8) ((aA g e).bind λa=>Option.bind (α:=(ab1×cz×Unit)⊕(cU⊕b8)) (Option.bind (α:=(Bool×ab1×cz×Unit)) (bif (a.1 !=((b.length:Nat):Int))==false then bif decide (a.2.1<=a.1)==false then some (decide (a.2.1>h),b,a,()) else some (true,b,a,()) else some (true,b,a,())) λ(o,m,l,_)=>bif o then some (.inr (.inr (.inr (.inr ([],false,()))))) else some (.inl (m,l,()))) λc=>match c with
 |.inl (i,f,_)=>((Ah ([e],IntKind.i64.wrap (f.2.1-f.1),())).bind λ(k,_)=>(bS (i.length+k.length)).bind λ_=>some (.inl ((i++k),())))
 |.inr d=>some d) λc=>match c with
 |.inl (n,_)=>(some (.inl (IntKind.i64.wrap (e+(1:Int)),n,())))
 |.inr d=>some d) else some (.inr (.inl (b,())))) ((0:Int),[],())).bind λc=>match c with
 |.inl (j,_)=>(some (j,(((j.length:Nat):Int)==h),()))
 |.inr d=>some d
def AO:(cz×Int×Unit)->abY:=λ(a,g,_)=>(bif decide ((((a.2.2.1).length:Nat):Int)<IntKind.i64.wrap (a.2.1-a.1)) then some (false,()) else((loop (σ:=cY) (ρ:=cP) (λ(b,_)=>bif decide (b<(((a.2.2.1).length:Nat):Int)) then(Option.bind (α:=Unit⊕cA) ((aA a.2.2.1 b).bind λc=>Option.bind (α:=cX) (bif decide (b<IntKind.i64.wrap (a.2.1-a.1))==true then some ((c !=IntKind.i64.wrap (a.1+b)),()) else some (false,())) λ(f,_)=>bif f then bif f then some (.inr (.inr (.inr (false,())))) else some (.inl ()) else bif decide (b>=IntKind.i64.wrap (a.2.1-a.1))==true then bif decide (c<a.2.1)==false then bif decide (c>=g)==false then(aA a.2.2.1 (IntKind.i64.wrap (b-(1:Int)))).bind λh=>bif decide (c<=h) then some (.inr (.inr (.inr (false,())))) else some (.inl ()) else some (.inr (.inr (.inr (false,())))) else some (.inr (.inr (.inr (false,())))) else some (.inl ())) λd=>match d with
 |.inl _=>(some (.inl (IntKind.i64.wrap (b+(1:Int)),())))
 |.inr e=>some e) else some (.inr (.inl ()))) ((0:Int),())).bind λd=>match d with
 |.inl _=>(some (true,()))
 |.inr e=>some e))
def AN:(List cz×ab1×cz×Unit)->abY:=λ(f,g,a,_)=>((fU (IntKind.i64.wrap (a.2.1-a.1))).bind λd=>(some ((a.2.2.1).length)).bind λe=>(gj d e (a.2.2.1).length).map λ_=>(d,e)).bind λb=>(bif (((((a.2.2.1).take b.2).drop b.1).length:Nat):Int)==(0:Int) then some ((a.2.2.2.1==(-1:Int)),()) else(aA (((a.2.2.1).take b.2).drop b.1) (0:Int)).bind λm=>(aA g m).bind λn=>bif a.2.2.2.1 !=n then some (false,()) else((loop (σ:=cY) (ρ:=cP) (λ(c,_)=>bif decide (c<(((((a.2.2.1).take b.2).drop b.1).length:Nat):Int)) then(aA (((a.2.2.1).take b.2).drop b.1) c).bind λk=>(aA f a.2.2.2.1).bind λl=>(ss (l.2.2.1,k,())).bind λ(_,j,_)=>bif !j then some (.inr (.inr (false,()))) else some (.inl (IntKind.i64.wrap (c+(1:Int)),())) else some (.inr (.inl ()))) ((0:Int),())).bind λh=>match h with
 |.inl _=>(some (true,()))
 |.inr i=>some i))
def DJ:(cz×abV×Unit)->abY:=λ(a,b,_)=>b.bind λc=>(AO (a,c,())).bind λ(aU,_)=>some ((!aU),())
def DB:b6->abZ:=λ(b,c,_)=>(loop (σ:=cY) (ρ:=cR) (λ(a,_)=>bif decide (a<((b.length:Nat):Int)) then(aA b a).bind λg=>(DJ (g,c.1,())).bind λ(f,_)=>bif f then some (.inr (.inr (a,()))) else some (.inl (IntKind.i64.wrap (a+(1:Int)),())) else some (.inr (.inl ()))) ((0:Int),())).bind λd=>match d with
 |.inl _=>(some ((-1:Int),()))
 |.inr e=>some e
def Ad:b6->abY:=λ(c,a,_)=>(DB (c,(a.1,()),())).bind λ(b,_)=>some (decide (b>=(0:Int)),())
def DK:(cz×Option ck×c3×Unit)->abY:=λ(a,b,c,_)=>b.bind λe=>c.bind λf=>(AN (e,f,a,())).bind λ(d,_)=>some ((!d),())
def DC:b4->abZ:=λ(c,b,_)=>(loop (σ:=cY) (ρ:=cR) (λ(a,_)=>bif decide (a<((c.length:Nat):Int)) then(aA c a).bind λg=>(DK (g,b.1,b.2.1,())).bind λ(f,_)=>bif f then some (.inr (.inr (a,()))) else some (.inl (IntKind.i64.wrap (a+(1:Int)),())) else some (.inr (.inl ()))) ((0:Int),())).bind λd=>match d with
 |.inl _=>(some ((-1:Int),()))
 |.inr e=>some e
def Ae:b4->abY:=λ(c,a,_)=>(DC (c,(a.1,a.2.1,()),())).bind λ(b,_)=>some (decide (b>=(0:Int)),())
def uN:(cI×List cz×Unit)->abZ:=λ(c,d,_)=>(uv (c,())).bind λ(i,_)=>(bif i !=(0:Int) then some (i,()) else((AM (d,(((c.1).length:Nat):Int),())).bind λ(aU,p,_)=>Option.bind (α:=cU⊕cY) (bif (!p)==false then(Ad (d,(some (((c.1).length:Nat):Int),()),())).bind λ(q,_)=>bif q then some (.inr ((211:Int),())) else some (.inl (aU,())) else some (.inr ((211:Int),()))) λa=>match a with
 |.inl (h,_)=>((Ae (d,(some d,some h,()),())).bind λ(r,_)=>bif r then some ((211:Int),()) else((loop (σ:=cN) (ρ:=cR) (λ(e,l,_)=>bif decide (e<(((c.1).length:Nat):Int)) then((aA c.1 e).bind λj=>(loop (σ:=cN) (ρ:=b9) (λ(g,f,_)=>bif decide (g<((j.length:Nat):Int)) then(Option.bind (α:=cU⊕(cN⊕b9)) ((aA j g).bind λk=>bif decide (k>e) then some (.inl (f,())) else(aA f k).bind λs=>(aA d s).bind λt=>(ss (t.2.2.1,e,())).bind λ(_,o,_)=>bif !o then some (.inr (.inr (.inr (.inr (.inr ((211:Int),())))))) else some (.inl (f,()))) λa=>match a with
 |.inl (m,_)=>(some (.inl (IntKind.i64.wrap (g+(1:Int)),m,())))
 |.inr b=>some b) else some (.inr (.inl (f,())))) ((0:Int),l,())).bind λa=>match a with
 |.inl (n,_)=>(some (.inl (IntKind.i64.wrap (e+(1:Int)),n,())))
 |.inr b=>some b) else some (.inr (.inl ()))) ((0:Int),h,())).bind λa=>match a with
 |.inl _=>(some ((0:Int),()))
 |.inr b=>some b))
 |.inr b=>some b))
def Aq:cM->abY:=λ(b,c,_)=>(bif ((b.length:Nat):Int)!=c then some (false,()) else((eo c c).bind λk=>(loop (σ:=cK) (ρ:=cP) (λ(a,g,_)=>bif decide (a<c) then(Option.bind (α:=cS⊕cj) (Option.bind (α:=cS⊕(cS⊕cj)) ((aA b a).bind λo=>bif decide (o<(0:Int))==false then(aA b a).bind λp=>bif decide (p>=c)==false then(aA b a).bind λq=>(bh g.length q).bind λj=>(a9 g j λi=>some i).bind λm=>bif m then some (.inr (.inr (.inr (.inr (false,()))))) else some (.inl (g,())) else some (.inr (.inr (.inr (.inr (false,()))))) else some (.inr (.inr (.inr (.inr (false,())))))) λd=>match d with
 |.inl (f,_)=>((aA b a).bind λn=>(bh f.length n).bind λh=>(a9 f h λ_=>some (f.set h true)).bind λr=>some (.inl (r,())))
 |.inr e=>some e) λd=>match d with
 |.inl (l,_)=>(some (.inl (IntKind.i64.wrap (a+(1:Int)),l,())))
 |.inr e=>some e) else some (.inr (.inl ()))) ((0:Int),List.replicate k false,())).bind λd=>match d with
 |.inl _=>(some (true,()))
 |.inr e=>some e))
def qJ:cn->Option cy:=λ(a,b,_)=>(uM (a,())).bind λ(c,_)=>(bif c !=(0:Int) then some (([],()),c,()) else bif ((b.length:Nat):Int)!=(((a.1).length:Nat):Int) then some (([],()),(2:Int),()) else(Aq (b,(((a.1).length:Nat):Int),())).bind λ(aU,_)=>bif !aU then some (([],()),(90:Int),()) else(AK (a,b,())).bind λ(d,e,_)=>some (d,e,()))
section
open Go
def yw (c:ab1->c3) (a:ab1):Option Bool:=bif Nat.ble a.length 1000000 then(c a).bind λb=>bif Nat.ble b.length 1000000 then some (decide ((Lib.compact b).length<a.length)) else none else none
end
def zQ:cy->abY:=λ(b,a,_)=>(bif decide (a>=(0:Int))==true then some (decide (a<(((b.1).length:Nat):Int)),()) else some (false,()))
def uC:cY->abZ:=λ(a,_)=>Option.bind (α:=cW) (bif decide (a>=(65536:Int)) then(dm IntKind.u32 a (16:Int)).bind λg=>some (g,(16:Int),()) else some (a,(0:Int),())) λ(b,c,_)=>Option.bind (α:=cW) (bif decide (b>=(256:Int)) then(dm IntKind.u32 b (8:Int)).bind λh=>some (h,IntKind.i64.wrap (c+(8:Int)),()) else some (b,c,())) λ(f,e,_)=>(oG Bt (IntKind.u8.wrap f)).bind λd=>some (IntKind.i64.wrap (e+IntKind.i64.wrap d),())
def Ip:cY->abZ:=λ(a,_)=>Option.bind (α:=cW) (bif decide (a>=(4294967296:Int)) then(dm IntKind.u64 a (32:Int)).bind λi=>some (i,(32:Int),()) else some (a,(0:Int),())) λ(b,d,_)=>Option.bind (α:=cW) (bif decide (b>=(65536:Int)) then(dm IntKind.u64 b (16:Int)).bind λj=>some (j,IntKind.i64.wrap (d+(16:Int)),()) else some (b,d,())) λ(c,e,_)=>Option.bind (α:=cW) (bif decide (c>=(256:Int)) then(dm IntKind.u64 c (8:Int)).bind λk=>some (k,IntKind.i64.wrap (e+(8:Int)),()) else some (c,e,())) λ(h,g,_)=>(oG Bt (IntKind.u8.wrap h)).bind λf=>some (IntKind.i64.wrap (g+IntKind.i64.wrap f),())
def Dw:cY->abZ:=λ(b,_)=>(Ip (b,())).bind λ(a,_)=>some (a,())
def Ai:(ab1×Int×Int×Unit)->Option cU:=λ(k,f,j,_)=>(loop (σ:=cN) (ρ:=cU) (λ(d,g,_)=>bif decide (d<j) then(loop (σ:=cN) (ρ:=cU) (λ(a,c,_)=>Option.bind (α:=cU⊕(cN⊕cU)) (bif decide (a>f)==true then(bh c.length a).bind λu=>(a9 c u λq=>some q).bind λy=>(bh c.length (IntKind.i64.wrap (a-(1:Int)))).bind λr=>(a9 c r λn=>some n).bind λz=>(sl (y,z,())).bind λ(x,_)=>bif x then some (.inl (c,())) else some (.inr (.inr (c,()))) else some (.inr (.inr (c,())))) λv=>match v with
 |.inl (b,_)=>((bh b.length (IntKind.i64.wrap (a-(1:Int)))).bind λs=>(a9 b s λo=>some o).bind λA=>(bh b.length a).bind λt=>(a9 b t λp=>some p).bind λB=>(bh b.length a).bind λh=>(a9 b h λ_=>some (b.set h A)).bind λe=>(bh e.length (IntKind.i64.wrap (a-(1:Int)))).bind λi=>(a9 e i λ_=>some (e.set i B)).bind λC=>some (.inl (IntKind.i64.wrap (a-(1:Int)),C,())))
 |.inr w=>some w) (d,g,())).bind λ(l,_)=>some (.inl (IntKind.i64.wrap (d+(1:Int)),l,())) else some (.inr (g,()))) (IntKind.i64.wrap (f+(1:Int)),k,())).bind λ(m,_)=>some (m,())
def Ak:(ab1×Int×Int×Int×Unit)->Option cU:=λ(e,c,d,g,_)=>(loop (σ:=(Int×Int×Int×Bool×Bool×ab1×Unit)) (ρ:=cU) (λ(a,b,_,_,_,f,_)=>bif decide (IntKind.i64.wrap (b-a)<=(12:Int)) then(Ai (f,a,b,())).bind λ(h,_)=>some (.inr (h,())) else none) (c,d,g,true,true,e,())).bind some
def wX:cU->Option cU:=λ(a,_)=>(Dw (IntKind.u64.wrap ((a.length:Nat):Int),())).bind λ(c,_)=>(Ak (a,(0:Int),((a.length:Nat):Int),c,())).bind λ(b,_)=>some (b,())
def zP:ab1×Unit->abY:=λa=>(yw (λc=>(wX (c,())).map λd=>d.1) a.1).map λb=>(b,())
def Du:(Int×Option cI×Unit)->abY:=λ(b,a,_)=>a.bind λc=>(zQ (c,b,())).bind λ(aU,_)=>some ((!aU),())
def DD:cc->abZ:=λ(b,c,_)=>(loop (σ:=cY) (ρ:=cR) (λ(a,_)=>bif decide (a<((b.length:Nat):Int)) then(aA b a).bind λg=>(Du (g,c.1,())).bind λ(f,_)=>bif f then some (.inr (.inr (a,()))) else some (.inl (IntKind.i64.wrap (a+(1:Int)),())) else some (.inr (.inl ()))) ((0:Int),())).bind λd=>match d with
 |.inl _=>(some ((-1:Int),()))
 |.inr e=>some e
def Af:cc->abY:=λ(c,a,_)=>(DD (c,(a.1,()),())).bind λ(b,_)=>some (decide (b>=(0:Int)),())
def zL:cn->abZ:=λ(a,b,_)=>(uv (a,())).bind λ(c,_)=>(bif c !=(0:Int) then some (c,()) else bif ((b.length:Nat):Int)!=(((a.1).length:Nat):Int) then some ((2:Int),()) else(Af (b,(some a,()),())).bind λ(aU,_)=>bif aU==false then(zP (b,())).bind λ(d,_)=>bif d then some ((90:Int),()) else some ((0:Int),()) else some ((90:Int),()))
def wN:cY->Option cH:=λ(a,_)=>(eo a a).bind λe=>(loop (σ:=cD) (ρ:=cH) (λ(c,b,_)=>bif decide (c<((((List.replicate e []):c5).length:Nat):Int)) then(eo a a).bind λf=>(bh b.length c).bind λd=>(a9 b d λ_=>some (b.set d (List.replicate f false))).bind λh=>some (.inl (IntKind.i64.wrap (c+(1:Int)),h,())) else some (.inr (b,()))) ((0:Int),List.replicate e [],())).bind λ(g,_)=>some (g,())
def wQ:(c5×Int×Int×Unit)->Option cH:=λ(a,d,e,_)=>(bif d !=e then(bh a.length d).bind λb=>(bh a.length e).bind λc=>((a9 a b λm=>some m).bind λn=>bh n.length e).bind λi=>(a9 a b λg=>(a9 g i λ_=>some (g.set i true)).map λo=>a.set b o).bind λf=>((a9 f c λk=>some k).bind λl=>bh l.length d).bind λj=>(a9 f c λh=>(a9 h j λ_=>some (h.set j true)).map λp=>f.set c p).bind λq=>some (q,()) else some (a,()))
def zM:(c5×Int×Unit)->Option cU:=λ(f,g,_)=>(aA f g).bind λc=>(loop (σ:=cN) (ρ:=cU) (λ(a,b,_)=>bif decide (a<((c.length:Nat):Int)) then Option.bind (α:=cU) ((aA c a).bind λh=>bif h then(bS (b.length+([a]).length)).bind λ_=>some ((b++[a]),()) else some (b,())) λ(d,_)=>some (.inl (IntKind.i64.wrap (a+(1:Int)),d,())) else some (.inr (b,()))) ((0:Int),[],())).bind λ(e,_)=>some (e,())
def wP:cH->Option cC:=λ(b,_)=>(eo ((b.length:Nat):Int) ((b.length:Nat):Int)).bind λg=>(loop (σ:=ca) (ρ:=cb) (λ(c,e,a,_)=>bif decide (c<((b.length:Nat):Int)) then(zM (b,c,())).bind λ(h,_)=>(bh (a.1).length c).bind λd=>((a9 a.1 d λ_=>some ((a.1).set d h)).map λi=>(i,a.2)).bind λj=>some (.inl (IntKind.i64.wrap (c+(1:Int)),e,j,())) else some (.inr (e,a,()))) ((0:Int),([],()),(List.replicate g [],()),())).bind λ(_,f,_)=>some (f,())
def zO:cn->Option cC:=λ(k,a,_)=>(wN (((a.length:Nat):Int),())).bind λ(o,_)=>(loop (σ:=cd) (ρ:=cf) (λ(b,i,j,_)=>bif decide (b<((a.length:Nat):Int)) then(aA a b).bind λv=>((some (0)).bind λg=>(fU b).bind λh=>(gj g h a.length).map λ_=>(g,h)).bind λc=>(loop (σ:=cd) (ρ:=cf) (λ(d,e,f,_)=>bif decide (d<((((a.take c.2).drop c.1).length:Nat):Int)) then Option.bind (α:=cf) ((aA ((a.take c.2).drop c.1) d).bind λu=>(uw (k,v,u,())).bind λ(m,_)=>bif m then(wQ (f,b,d,())).bind λ(l,_)=>some (e,l,()) else some (e,f,())) λ(p,q,_)=>
 some (.inl (IntKind.i64.wrap (d+(1:Int)),p,q,())) else some (.inr (e,f,()))) ((0:Int),i,j,())).bind λ(r,s,_)=>some (.inl (IntKind.i64.wrap (b+(1:Int)),r,s,())) else some (.inr (i,j,()))) ((0:Int),([],()),o,())).bind λ(_,t,_)=>(wP (t,())).bind λ(n,_)=>some (n,())
def wO:cn->Option cy:=λ(a,b,_)=>(zL (a,b,())).bind λ(c,_)=>(bif c !=(0:Int) then some (([],()),c,()) else(zO (a,b,())).bind λ(aU,_)=>some (aU,(0:Int),()))
def uo:cW->abZ:=λ(a,b,_)=>(qz (a,())).bind λ(c,_)=>(qz (b,())).bind λ(aU,_)=>(bif c then bif aU then some ((0:Int),()) else some ((-1:Int),()) else bif aU then some ((1:Int),()) else bif decide (a<b) then some ((-1:Int),()) else bif decide (a>b) then some ((1:Int),()) else some ((0:Int),()))
def zq:cU->abZ:=λ(b,_)=>(loop (σ:=cY) (ρ:=cR) (λ(a,_)=>bif decide (a<((b.length:Nat):Int)) then(aA b a).bind λc=>bif c !=(0:Int) then some (.inr (.inr (c,()))) else some (.inl (IntKind.i64.wrap (a+(1:Int)),())) else some (.inr (.inl ()))) ((0:Int),())).bind λd=>match d with
 |.inl _=>(some ((0:Int),()))
 |.inr e=>some e
abbrev aX:Type:=ab1
abbrev fh:Type:=(aX×Unit)
abbrev dp:Type:=(Bool×fh)
abbrev bt:Type:=cY
abbrev di:Type:=(Bool×(dp×bt))
abbrev Hg:Type:=(aX×(aX×fh))
abbrev ha:Type:=(List di)
abbrev e5:Type:=(Int×(Int×(ha×Unit)))
abbrev jS:Type:=(List (Int×(Int×bt)))
abbrev hb:Type:=(List aX×(List aX×(List (Option (List (Int×di)×Nat))×(List aX×Unit))))
abbrev bP:Type:=(Int×(Int×Hg))
abbrev k9:Type:=(Int×(Int×fh))
abbrev e3:Type:=cX
abbrev lK:Type:=(Int×((List aX×Unit)×(List (Option (List (Int×di)×Nat))×Unit)))
abbrev gN:Type:=(List (Int×(Int×(aX×bt))))
abbrev it:Type:=(aX×Hg)
abbrev gd:Type:=(di×Unit)
abbrev jR:Type:=(e5×(k9×(ha×Unit)))
abbrev e4:Type:=(dp×Unit)
abbrev ua:Type:=(di×di×Unit)
abbrev h9:Type:=(Int×aX×Unit)
abbrev gy:Type:=abX
abbrev r7:Type:=(it×Int×Int×Unit)
abbrev nY:Type:=(Unit⊕e3)
abbrev nZ:Type:=(Int×e5×e5×Unit)
abbrev ja:Type:=(jS×Unit)
abbrev nb:Type:=(e5×e5×Unit)
abbrev pe:Type:=(Int×jS×Unit)
abbrev k7:Type:=(aX×aX×Unit)
abbrev lL:Type:=(dp×dp×Unit)
abbrev lM:Type:=(Unit⊕bt)
abbrev lN:Type:=(aX×Int×Unit)
abbrev mu:Type:=cW
abbrev pf:Type:=(e5×Int×Unit)
abbrev iL:Type:=(gN×List gy×Unit)
abbrev CW:Type:=(Int×Int×jS×Unit)
abbrev qn:Type:=(Bool×(dp×(Int×e3)))
abbrev qo:Type:=(Int×Int×aX×Unit)
abbrev nc:Type:=(dp×Int×Unit)
abbrev k8:Type:=(bP×Unit)
def n7:fh->Option fh:=λ(c,_)=>(loop (σ:=bt) (ρ:=bt) (λ(a,_)=>Option.bind (α:=Unit⊕(bt⊕bt)) (bif decide (a>0)==true then(aA c (aw (a-1))).bind λj=>bif j==0 then some (.inl ()) else some (.inr (.inr (a,()))) else some (.inr (.inr (a,())))) λh=>match h with
 |.inl _=>(some (.inl (aw (a-1),())))
 |.inr i=>some i) (ax c,())).bind λ(f,_)=>(loop (σ:=h9) (ρ:=fh) (λ(b,d,_)=>bif decide (b<f) then(aA c b).bind λe=>(bS (d.length+([e]).length)).bind λ_=>some (.inl (aZ b,(d++[e]),())) else some (.inr (d,()))) (0,[],())).bind λ(g,_)=>some (g,())
def lT:(Bool×aX×Unit)->Option e4:=λ(c,b,_)=>(n7 (b,())).bind λ(a,_)=>(bif c==true then some ((decide (ax a>0),(a,())),()) else some ((false,(a,())),()))
def uH:bt->Option e4:=λ(a,_)=>Option.bind (α:=(Int×dp×Unit)) (bif decide (a<0) then some (aR (aR (aw (0-aZ a))+1),(false,([],())),()) else some (aR a,(false,([],())),())) λ(b,_,_)=>(dm IntKind.u64 b 32).bind λd=>(lT (decide (a<0),[dg b,dg d],())).bind λ(c,_)=>some (c,())
def qG:e4->Option e4:=λ(a,_)=>(lT (a.1,a.2.1,())).bind λ(b,_)=>some (b,())
def uI:Unit->Option gd:=λ_=>some ((true,((false,([],())),((0:Int),()))),())
def uD:bt->Option bt:=λ(a,_)=>(bif a==0 then some (32,()) else(dm IntKind.u32 (dg (dq IntKind.u32 a (dg (0-a))*125613361)) 27).bind λb=>(aA n3 b).bind λc=>some (aw c,()))
def pu:e4->Option bt:=λ(c,_)=>(n7 (c.2.1,())).bind λ(b,_)=>(loop (σ:=bt) (ρ:=lM) (λ(a,_)=>bif decide (a<ax b) then(aA b a).bind λg=>bif g !=0 then(aA b a).bind λh=>(uD (h,())).bind λ(f,_)=>some (.inr (.inr (aw (aw (32*a)+f),()))) else some (.inl (aZ a,())) else some (.inr (.inl ()))) (0,())).bind λd=>match d with
 |.inl _=>(some (0,()))
 |.inr e=>some e
def uG:e4->Option e4:=λ(a,_)=>(lT (false,a.2.1,())).bind λ(b,_)=>some (b,())
def Ay:lN->Option fh:=λ(f,g,_)=>(h3 IntKind.i64 g 32).bind λi=>(eo i i).bind λj=>(loop (σ:=qo) (ρ:=h9) (λ(a,b,c,_)=>bif decide (b<ax f) then(aA f b).bind λl=>(gV g 32).bind λm=>(gW IntKind.u64 (aR l) m).bind λd=>(bS (c.length+([dg (eP IntKind.u64 a d)]).length)).bind λ_=>(dm IntKind.u64 (eP IntKind.u64 a d) 32).bind λk=>some (.inl (k,aZ b,(c++[dg (eP IntKind.u64 a d)]),())) else some (.inr (a,c,()))) (0,0,List.replicate j (0:Int),())).bind λ(e,h,_)=>(bS (h.length+([dg e]).length)).bind λ_=>some ((h++[dg e]),())
def w6:lN->Option (aX×Bool×Unit):=λ(b,d,_)=>(loop (σ:=cV) (ρ:=e3) (λ(e,c,_)=>Option.bind (α:=Unit⊕(cV⊕e3)) ((h3 IntKind.i64 d 32).bind λw=>bif decide (c<w)==true then bif decide (c<ax b) then some (.inl ()) else some (.inr (.inr (e,()))) else some (.inr (.inr (e,())))) λt=>match t with
 |.inl _=>(Option.bind (α:=e3) (bif e==false then(aA b c).bind λx=>some ((x !=0),()) else some (true,())) λ(m,_)=>some (.inl (m,aZ c,())))
 |.inr u=>some u) (false,0,())).bind λ(n,_)=>(gV d 32).bind λj=>(h3 IntKind.i64 d 32).bind λy=>(loop (σ:=(Bool×Int×aX×Unit)) (ρ:=(Bool×aX×Unit)) (λ(f,a,g,_)=>bif decide (a<ax b) then Option.bind (α:=(Bool×aX×Unit)) ((aA b a).bind λk=>Option.bind (α:=h9) (bif decide (aZ a<ax b) then(aA b (aZ a)).bind λz=>(gW IntKind.u64 (aR z) 32).bind λA=>some (eP IntKind.u64 (aR k) A,g,()) else some (aR k,g,())) λ(v,h,_)=>Option.bind (α:=(Bool×aX×Unit)) ((h3 IntKind.i64 d 32).bind λB=>bif (a==B)==true then(aA b a).bind λC=>(gW IntKind.u32 1 j).bind λD=>bif dq IntKind.u32 C (dg (D-1))!=0 then some (true,h,()) else some (f,h,()) else some (f,h,())) λ(o,i,_)=>(dm IntKind.u64 v j).bind λl=>(bS (i.length+([dg l]).length)).bind λ_=>some (o,(i++[dg l]),())) λ(p,r,_)=>some (.inl (p,aZ a,r,())) else
 some (.inr (f,g,()))) (n,y,[],())).bind λ(q,s,_)=>some (s,q,())
def Au:e4->Option e4:=λ(a,_)=>(lT ((!a.1),a.2.1,())).bind λ(b,_)=>some (b,())
def Aw:k7->Option fh:=λ(b,c,_)=>(loop (σ:=qo) (ρ:=h9) (λ(e,a,f,_)=>bif decide (a<(if(ax c)>ax b then ax c else ax b)) then Option.bind (α:=h9) (Option.bind (α:=h9) (bif decide (a<ax b) then(aA b a).bind λo=>some (aR (e+aR o),f,()) else some (e,f,())) λ(h,k,_)=>Option.bind (α:=h9) (bif decide (a<ax c) then(aA c a).bind λp=>some (aR (h+aR p),k,()) else some (h,k,())) λ(d,i,_)=>(bS (i.length+([dg d]).length)).bind λ_=>(dm IntKind.u64 d 32).bind λn=>some (n,(i++[dg d]),())) λ(l,m,_)=>some (.inl (l,aZ a,m,())) else some (.inr (e,f,()))) (0,0,[],())).bind λ(g,j,_)=>(bS (j.length+([dg g]).length)).bind λ_=>some ((j++[dg g]),())
def Ax:k7->Option bt:=λ(b,c,_)=>(bif ax b !=ax c then bif decide (ax b<ax c) then some ((-1:Int),()) else some (1,()) else((loop (σ:=bt) (ρ:=lM) (λ(a,_)=>bif decide (a>=0) then(aA b a).bind λf=>(aA c a).bind λg=>bif f !=g then(aA b a).bind λh=>(aA c a).bind λi=>bif decide (h<i) then some (.inr (.inr ((-1:Int),()))) else some (.inr (.inr (1,()))) else some (.inl (aw (a-1),())) else some (.inr (.inl ()))) (aw (ax b-1),())).bind λd=>match d with
 |.inl _=>(some (0,()))
 |.inr e=>some e))
def w7:k7->Option fh:=λ(d,e,_)=>(loop (σ:=qo) (ρ:=fh) (λ(f,a,b,_)=>bif decide (a<ax d) then Option.bind (α:=h9) ((aA d a).bind λh=>Option.bind (α:=h9) (bif decide (a<ax e) then(aA e a).bind λm=>some (aR (aR (aR h-f)-aR m),b,()) else some (aR (aR h-f),b,())) λ(c,g,_)=>(bS (g.length+([dg c]).length)).bind λ_=>(dm IntKind.u64 c 63).bind λl=>some (l,(g++[dg c]),())) λ(i,j,_)=>some (.inl (i,aZ a,j,())) else some (.inr (b,()))) (0,0,[],())).bind λ(k,_)=>some (k,())
def sx:lL->Option e4:=λ(a,c,_)=>(n7 (a.2.1,())).bind λ(b,_)=>(n7 (c.2.1,())).bind λ(aU,_)=>(bif a.1==c.1 then(Aw (b,aU,())).bind λ(f,_)=>(lT (a.1,f,())).bind λ(g,_)=>some (g,()) else(Ax (b,aU,())).bind λ(h,_)=>bif decide (h>=0) then(w7 (b,aU,())).bind λ(i,_)=>(lT (a.1,i,())).bind λ(j,_)=>some (j,()) else(w7 (aU,b,())).bind λ(d,_)=>(lT (c.1,d,())).bind λ(e,_)=>some (e,()))
def Av:lL->Option e4:=λ(a,b,_)=>(Au (b,())).bind λ(c,_)=>(sx (a,c,())).bind λ(aU,_)=>some (aU,())
def nl:nc->Option e4:=λ(f,b,_)=>(qG (f,())).bind λ(a,_)=>(bif decide (b>=0) then(Ay (a.2.1,b,())).bind λ(aU,_)=>(lT (a.1,aU,())).bind λ(j,_)=>some (j,()) else(w6 (a.2.1,aw (0-b),())).bind λ(k,l,_)=>(lT (a.1,k,())).bind λ(d,_)=>Option.bind (α:=lL) (Option.bind (α:=(Bool×dp×dp×Unit)) (bif a.1==true then some (l,(false,([],())),d,()) else some (false,(false,([],())),d,())) λ(m,e,c,_)=>bif m then(uH (1,())).bind λ(h,_)=>(Av (c,h,())).bind λ(i,_)=>some (e,i,()) else some (e,c,())) λ(_,g,_)=>some (g,()))
def uK:nc->Option e4:=λ(d,f,_)=>(loop (σ:=(Int×dp×dp×Unit)) (ρ:=(Int×dp×dp×Unit)) (λ(a,b,c,_)=>bif decide (a>1048576) then(nl (b,(-1048576:Int),())).bind λ(i,_)=>some (.inl (aw (a-1048576),i,c,())) else some (.inr (a,b,c,()))) (f,d,(false,([],())),())).bind λ(g,e,_,_)=>(nl (e,aw (0-g),())).bind λ(h,_)=>some (h,())
def w4:e4->Option bt:=λ(b,_)=>(n7 (b.2.1,())).bind λ(a,_)=>(bif ax a==0 then some (0,()) else(aA a (aw (ax a-1))).bind λc=>(uC (c,())).bind λ(aU,_)=>some (aw (aw (32*aw (ax a-1))+aU),()))
def pv:nc->Option gd:=λ(e,a,_)=>(qG (e,())).bind λ(c,_)=>(bif ax c.2.1==0 then some ((false,((false,([],())),((0:Int),()))),()) else bif decide (a>65536) then(uI ()).bind λ(aU,_)=>some (aU,()) else((pu (c,())).bind λ(b,_)=>(uG (c,())).bind λ(k,_)=>(uK (k,b,())).bind λ(d,_)=>Option.bind (α:=(di×dp×Unit)⊕gd) (Option.bind (α:=(Bool×di×dp×Unit)) (bif decide (aw (a+b)<(-65536:Int))==false then(w4 (d,())).bind λ(l,_)=>some (decide (aw (aw (a+b)+l)>65536),(false,((false,([],())),((0:Int),()))),d,()) else some (true,(false,((false,([],())),((0:Int),()))),d,())) λ(n,m,f,_)=>bif n then(uI ()).bind λ(j,_)=>some (.inr (j,())) else some (.inl (m,f,()))) λh=>match h with
 |.inl (_,g,_)=>(some ((false,((e.1,g.2),(aw (a+b),()))),()))
 |.inr i=>some i))
def w8:bt->Option gd:=λ(a,_)=>(uH (a,())).bind λ(b,_)=>(pv (b,0,())).bind λ(c,_)=>some (c,())
def uJ:gd->Option gd:=λ(a,_)=>(bif a.1 then(uI ()).bind λ(b,_)=>some (b,()) else(pv (a.2.1,a.2.2.1,())).bind λ(c,_)=>some (c,()))
def qH:e4->Option bt:=λ(b,_)=>(qG (b,())).bind λ(a,_)=>(bif ax a.2.1==0 then some (0,()) else bif a.1 then some ((-1:Int),()) else some (1,()))
def pw:cV->Option bt:=λ(b,a,_)=>(bif b then some (eP IntKind.u64 a 9223372036854775808,()) else some (a,()))
def xa:cV->Option bt:=λ(a,b,_)=>Option.bind (α:=Unit⊕bt) (Option.bind (α:=e3) (bif (b==3)==false then bif (b==1)==true then bif (!a)==false then bif (b==2)==true then some (a,()) else some (false,()) else some (true,()) else bif (b==2)==true then some (a,()) else some (false,()) else some (true,())) λ(f,_)=>bif f then(pw (a,9218868437227405311,())).bind λ(aU,_)=>some (.inr (aU,())) else some (.inl ())) λc=>match c with
 |.inl _=>((pw (a,9218868437227405312,())).bind λ(e,_)=>some (e,()))
 |.inr d=>some d
def w5:nc->Option e3:=λ(a,b,_)=>(n7 (a.2.1,())).bind λ(c,_)=>(w6 (c,b,())).bind λ(_,d,_)=>some (d,())
def AC:(Bool×Int×Bool×Int×Unit)->Option e3:=λ(c,b,d,a,_)=>(bif a==1 then some (c,()) else bif a==2 then some ((!c),()) else bif a==3 then some (false,()) else bif decide (b>0)==false then bif (b==0)==true then some (d,()) else some (false,()) else some (true,()))
def AA:(Bool×dp×Int×Bool×Int×Unit)->Option e4:=λ(q,b,a,h,p,_)=>(uK (b,a,())).bind λ(l,_)=>(w5 (b,a,())).bind λ(D,_)=>Option.bind (α:=lL⊕e4) (Option.bind (α:=(Bool×dp×dp×Unit)) (bif (!D)==true then some ((!h),(false,([],())),l,()) else some (false,(false,([],())),l,())) λ(F,G,i,_)=>bif F then some (.inr (i,())) else some (.inl (G,i,()))) λs=>match s with
 |.inl (g,f,_)=>(Option.bind (α:=(Int×dp×dp×Unit)) (bif decide (a>0) then(uK (b,aw (a-1),())).bind λ(k,_)=>Option.bind (α:=(Bool×dp×dp×Unit)) ((pu (k,())).bind λ(v,_)=>bif (v==0)==true then(qH (k,())).bind λ(w,_)=>some ((w !=0),g,f,()) else some (false,g,f,())) λ(E,e,c,_)=>bif E then bif h==false then(w5 (b,aw (a-1),())).bind λ(x,_)=>bif x then some (1,e,c,()) else some (0,e,c,()) else some (1,e,c,()) else some ((-1:Int),e,c,()) else some ((-1:Int),g,f,())) λ(o,m,d,_)=>Option.bind (α:=(Bool×dp×dp×Unit)) ((qH (d,())).bind λ(y,_)=>bif (y !=0)==true then(pu (d,())).bind λ(z,_)=>some ((z==0),m,d,()) else some (false,m,d,())) λ(r,n,j,_)=>Option.bind (α:=lL) ((AC (q,o,r,p,())).bind λ(A,_)=>
  bif A then(uH (1,())).bind λ(B,_)=>(sx (j,B,())).bind λ(C,_)=>some (n,C,()) else some (n,j,())) λ(_,t,_)=>some (t,()))
 |.inr u=>some u
def At:e4->Option cT:=λ(f,_)=>(qG (f,())).bind λ(d,_)=>(bif decide (ax d.2.1>2) then some (0,false,()) else(loop (σ:=(Int×Int×dp×Unit)) (ρ:=(Int×dp×Unit)) (λ(e,b,a,_)=>bif decide (b<ax a.2.1) then(aA a.2.1 b).bind λh=>(gW IntKind.u64 (aR h) (aw (32*b))).bind λi=>some (.inl (eP IntKind.u64 e i,aZ b,a,())) else some (.inr (e,a,()))) (0,0,d,())).bind λ(c,g,_)=>bif g.1 then bif decide (c>9223372036854775808) then some (0,false,()) else some (aw (aw (0-aw (aR (c-1)))-1),true,()) else bif decide (c>9223372036854775807) then some (0,false,()) else some (aw c,true,()))
def AF:(Bool×dp×Int×Bool×Int×Unit)->Option bt:=λ(c,e,a,i,f,_)=>(w4 (e,())).bind λ(b,_)=>(bif decide (aw (aw (a+b)-1)>=1024) then(xa (c,f,())).bind λ(p,_)=>some (p,()) else(Option.bind (α:=e4) (bif decide ((if(-1074:Int)>aw (aw (aw (a+b)-1)-52) then(-1074:Int) else aw (aw (aw (a+b)-1)-52))>=a) then(AA (c,e,aw ((if(-1074:Int)>aw (aw (aw (a+b)-1)-52) then(-1074:Int) else aw (aw (aw (a+b)-1)-52))-a),i,f,())).bind λ(q,_)=>some (q,()) else(nl (e,aw (a-(if(-1074:Int)>aw (aw (aw (a+b)-1)-52) then(-1074:Int) else aw (aw (aw (a+b)-1)-52))),())).bind λ(r,_)=>some (r,())) λ(j,_)=>(At (j,())).bind λ(g,_,_)=>Option.bind (α:=mu) (bif g==9007199254740992 then some (aZ (if(-1074:Int)>aw (aw (aw (a+b)-1)-52) then(-1074:Int) else aw (aw (aw (a+b)-1)-52)),4503599627370496,()) else
 some ((if(-1074:Int)>aw (aw (aw (a+b)-1)-52) then(-1074:Int) else aw (aw (aw (a+b)-1)-52)),g,())) λ(h,d,_)=>Option.bind (α:=Unit⊕bt) (Option.bind (α:=e3) (bif decide (d>=4503599627370496)==true then some (decide (aw (h+53)>1024),()) else some (false,())) λ(s,_)=>bif s then(xa (c,f,())).bind λ(m,_)=>some (.inr (m,())) else bif decide (d>=4503599627370496) then(gW IntKind.u64 (aR (aw (h+1075))) 52).bind λt=>(pw (c,eP IntKind.u64 t (aR (aw (d-4503599627370496))),())).bind λ(n,_)=>some (.inr (n,())) else some (.inl ())) λk=>match k with
 |.inl _=>((pw (c,aR d,())).bind λ(o,_)=>some (o,()))
 |.inr l=>some l))
def w9:(di×Int×Unit)->Option bt:=λ(b,c,_)=>(uJ (b,())).bind λ(a,_)=>(bif a.1 then some (9221120237041090560,()) else(qH (a.2.1,())).bind λ(aU,_)=>bif aU==0 then some (0,()) else(uG (a.2.1,())).bind λ(d,_)=>(AF (a.2.1.1,d,a.2.2.1,false,c,())).bind λ(e,_)=>some (e,()))
def sy:mu->Option bt:=λ(b,a,_)=>(w8 (b,())).bind λ(c,_)=>(w9 (c,a,())).bind λ(aU,_)=>some (aU,())
def uu:bt->Option mu:=λ(a,_)=>(dm IntKind.u64 a 52).bind λb=>some (aw (dq IntKind.u64 b 2047),dq IntKind.u64 a 4503599627370495,())
def qB:bt->Option e3:=λ(a,_)=>(uu (a,())).bind λ(b,_,_)=>some ((b !=2047),())
def gR:fh->Option fh:=λ(b,_)=>(loop (σ:=bt) (ρ:=bt) (λ(a,_)=>Option.bind (α:=Unit⊕(bt⊕bt)) (bif decide (a>0)==true then(aA b (aw (a-1))).bind λi=>bif i==0 then some (.inl ()) else some (.inr (.inr (a,()))) else some (.inr (.inr (a,())))) λg=>match g with
 |.inl _=>(some (.inl (aw (a-1),())))
 |.inr h=>some h) (ax b,())).bind λ(f,_)=>((some (0)).bind λc=>(fU f).bind λd=>(gj c d b.length).map λ_=>(c,d)).bind λe=>some (((b.take e.2).drop e.1),())
def jV:(Bool×aX×Unit)->Option e4:=λ(c,b,_)=>(gR (b,())).bind λ(a,_)=>(bif ax a==0 then some ((false,(([]:aX),())),()) else some ((c,(a,())),()))
def uy:bt->Option e4:=λ(a,_)=>Option.bind (α:=(Int×dp×Unit)) (bif decide (a<0) then some (aR (0-aR a),(false,([],())),()) else some (aR a,(false,([],())),())) λ(b,_,_)=>(dm IntKind.u64 b 32).bind λd=>(jV (decide (a<0),[dg (dq IntKind.u64 b 4294967295),dg d],())).bind λ(c,_)=>some (c,())
def zI:bt->Option e3:=λ(a,_)=>some ((dq IntKind.u64 a 9223372036854775808 !=0),())
def su:fh->Option fh:=λ(a,_)=>mM a.length (some ([],())) ((bS (([]:aX).length+a.length)).bind λ_=>some (([]++a),()))
def qD:e4->Option e4:=λ(a,_)=>(su (a.2.1,())).bind λ(b,_)=>(jV ((!a.1),b,())).bind λ(c,_)=>some (c,())
def us:Unit->Option gd:=λ_=>some ((true,((false,([],())),((0:Int),()))),())
def zT:e4->Option e4:=λ(a,_)=>(su (a.2.1,())).bind λ(b,_)=>(jV (a.1,b,())).bind λ(c,_)=>some (c,())
def nk:e4->Option bt:=λ(a,_)=>(gR (a.2.1,())).bind λ(b,_)=>(bif ax b==0 then some (0,()) else bif a.1 then some ((-1:Int),()) else some (1,()))
def wT:e4->Option bt:=λ(b,_)=>(loop (σ:=bt) (ρ:=lM) (λ(a,_)=>bif decide (a<ax b.2.1) then(aA b.2.1 a).bind λc=>bif c !=0 then(uD (c,())).bind λ(aU,_)=>some (.inr (.inr (aw (aw (a*32)+aU),()))) else some (.inl (aZ a,())) else some (.inr (.inl ()))) (0,())).bind λd=>match d with
 |.inl _=>(some (0,()))
 |.inr e=>some e
def uA:fh->Option bt:=λ(a,_)=>(bif ax a==0 then some (0,()) else(aA a (aw (ax a-1))).bind λc=>(uC (c,())).bind λ(b,_)=>some (aw (aw (aw (ax a-1)*32)+b),()))
def pq:e4->Option bt:=λ(a,_)=>(gR (a.2.1,())).bind λ(b,_)=>(uA (b,())).bind λ(c,_)=>some (c,())
def sr:lN->Option fh:=λ(b,e,_)=>(bif ax b==0 then some ([],()) else(h3 IntKind.i64 e 32).bind λc=>(gV e 32).bind λj=>(eo (aZ (aw (c+ax b))) (aZ (aw (c+ax b)))).bind λg=>(loop (σ:=h9) (ρ:=fh) (λ(a,d,_)=>bif decide (a<ax b) then(aA b a).bind λk=>(gW IntKind.u64 (aR k) (aR j)).bind λf=>rd d (aw (c+a)) λl=>wr d (aw (c+a)) (eP IntKind.u32 l (dg (dq IntKind.u64 f 4294967295))) λn=>(dm IntKind.u64 f 32).bind λm=>wr n (aZ (aw (c+a))) (dg m) λo=>some (.inl (aZ a,o,())) else some (.inr (d,()))) (0,List.replicate g (0:Int),())).bind λ(h,_)=>(gR (h,())).bind λ(i,_)=>some (i,()))
def Dv:bt->Option e3:=λ(a,_)=>some ((a !=0),())
def DE:(aX×Unit×Unit)->Option bt:=λ(b,_,_)=>(loop (σ:=bt) (ρ:=lM) (λ(a,_)=>bif decide (a<ax b) then(aA b a).bind λf=>(Dv (f,())).bind λ(e,_)=>bif e then some (.inr (.inr (a,()))) else some (.inl (aZ a,())) else some (.inr (.inl ()))) (0,())).bind λc=>match c with
 |.inl _=>(some ((-1:Int),()))
 |.inr d=>some d
def wW:(aX×Unit×Unit)->Option e3:=λ(b,_,_)=>(DE (b,(),())).bind λ(a,_)=>some (decide (a>=0),())
def uz:lN->Option (aX×Bool×Unit):=λ(a,h,_)=>(h3 IntKind.i64 h 32).bind λb=>(gV h 32).bind λj=>(bif decide (b>=ax a) then some ([],decide (ax a>0),()) else Option.bind (α:=e3) (((some (0)).bind λe=>(fU b).bind λf=>(gj e f a.length).map λ_=>(e,f)).bind λi=>(wW (((a.take i.2).drop i.1),(),())).bind λ(p,_)=>bif p==false then(aA a b).bind λs=>(gW IntKind.u32 1 (aR j)).bind λt=>some ((dq IntKind.u32 s (dg (t-1))!=0),()) else some (true,())) λ(l,_)=>(eo (aw (ax a-b)) (aw (ax a-b))).bind λg=>(loop (σ:=h9) (ρ:=fh) (λ(c,d,_)=>bif decide (c<ax (List.replicate g (0:Int))) then Option.bind (α:=fh) ((aA a (aw (b+c))).bind λk=>Option.bind (α:=h9) (bif decide (aZ (aw (b+c))<ax a) then(aA a (aZ (aw (b+c)))).bind λu=>(gW IntKind.u64 (aR u) 32).bind λv=>some (eP IntKind.u64 (aR k) v,d,()) else some (aR k,d,())) λ(r,m,_)=>
 (dm IntKind.u64 r (aR j)).bind λw=>wr m c (dg (dq IntKind.u64 w 4294967295)) λx=>some (x,())) λ(n,_)=>some (.inl (aZ c,n,())) else some (.inr (d,()))) (0,List.replicate g (0:Int),())).bind λ(o,_)=>(gR (o,())).bind λ(q,_)=>some (q,l,()))
def sq:k7->Option fh:=λ(b,d,_)=>Option.bind (α:=k7) (bif decide (ax b<ax d) then some (d,b,()) else some (b,d,())) λ(c,h,_)=>(eo 0 (aZ (ax c))).bind λn=>(loop (σ:=qo) (ρ:=h9) (λ(e,a,f,_)=>bif decide (a<ax c) then Option.bind (α:=h9) ((aA c a).bind λl=>Option.bind (α:=h9) (bif decide (a<ax h) then(aA h a).bind λq=>some (aR (aR (aR l+e)+aR q),f,()) else some (aR (aR l+e),f,())) λ(g,j,_)=>(bS (j.length+([dg (dq IntKind.u64 g 4294967295)]).length)).bind λ_=>(dm IntKind.u64 g 32).bind λr=>some (r,(j++[dg (dq IntKind.u64 g 4294967295)]),())) λ(m,o,_)=>some (.inl (m,aZ a,o,())) else some (.inr (e,f,()))) (0,0,List.replicate n (0:Int),())).bind λ(i,k,_)=>(bS (k.length+([dg i]).length)).bind λ_=>(gR ((k++[dg i]),())).bind λ(p,_)=>some (p,())
def pt:nc->Option nc:=λ(b,a,_)=>Option.bind (α:=e4⊕nc) (Option.bind (α:=(Bool×dp×Unit)) (bif decide (a<(-1048576:Int))==false then some (decide (a>1048576),(false,([],())),()) else some (true,(false,([],())),())) λ(p,q,_)=>bif p then some (.inr ((false,(([]:aX),())),3,())) else some (.inl (q,()))) λh=>match h with
 |.inl (f,_)=>((gR (b.2.1,())).bind λ(c,_)=>bif decide (a>=0) then(sr (c,a,())).bind λ(m,_)=>(jV (b.1,m,())).bind λ(n,_)=>some (n,0,()) else(uz (c,aw (0-a),())).bind λ(d,j,_)=>Option.bind (α:=(aX×dp×Unit)) (Option.bind (α:=(Bool×dp×Unit)) (bif b.1==true then some (j,f,()) else some (false,f,())) λ(o,e,_)=>bif o then(sq (d,[1],())).bind λ(k,_)=>some (k,e,()) else some (d,e,())) λ(g,_,_)=>(jV (b.1,g,())).bind λ(l,_)=>some (l,0,()))
 |.inr i=>some i
def wG:nc->Option e4:=λ(d,f,_)=>(loop (σ:=(Int×dp×dp×Unit)) (ρ:=(Int×dp×dp×Unit)) (λ(a,b,c,_)=>bif decide (a>1048576) then(pt (b,(-1048576:Int),())).bind λ(i,_,_)=>some (.inl (aw (a-1048576),i,c,())) else some (.inr (a,b,c,()))) (f,d,(false,([],())),())).bind λ(g,e,_,_)=>(pt (e,aw (0-g),())).bind λ(h,_,_)=>some (h,())
def mB:gd->Option (di×Bool×Unit):=λ(a,_)=>(bif a.1 then(us ()).bind λ(j,_)=>some (j,false,()) else(zT (a.2.1,())).bind λ(b,_)=>(nk (b,())).bind λ(aU,_)=>bif aU==0 then some ((false,((false,([],())),((0:Int),()))),true,()) else((wT (b,())).bind λ(c,_)=>Option.bind (α:=(di×dp×Unit)⊕(di×Bool×Unit)) (Option.bind (α:=(Bool×di×dp×Unit)) ((pq (b,())).bind λ(k,_)=>bif decide (a.2.2.1>aw (65536-k))==false then some (decide (a.2.2.1<aw ((-65536:Int)-c)),(false,((false,([],())),((0:Int),()))),b,()) else some (true,(false,((false,([],())),((0:Int),()))),b,())) λ(l,m,e,_)=>bif l then(us ()).bind λ(h,_)=>some (.inr (h,false,())) else some (.inl (m,e,()))) λf=>match f with
 |.inl (_,d,_)=>((wG (d,c,())).bind λ(i,_)=>some ((false,(i,(aw (a.2.2.1+c),()))),true,()))
 |.inr g=>some g))
def sm:nc->Option gd:=λ(b,a,_)=>(mB ((false,(b,(a,()))),())).bind λ(c,_,_)=>some (c,())
def pp:bt->Option gd:=λ(b,_)=>(uu (b,())).bind λ(a,c,_)=>Option.bind (α:=(Int×Int×di×Unit)⊕gd) (bif a==2047 then some (.inr ((true,((false,([],())),((0:Int),()))),())) else bif a==0 then some (.inl ((-1074:Int),c,(false,((false,([],())),((0:Int),()))),())) else some (.inl (aw (a-1075),eP IntKind.u64 c 4503599627370496,(false,((false,([],())),((0:Int),()))),()))) λi=>match i with
 |.inl (f,g,e,_)=>((uy (aw g,())).bind λ(d,_)=>Option.bind (α:=(di×dp×Unit)) ((zI (b,())).bind λ(l,_)=>bif l then(qD (d,())).bind λ(m,_)=>some (e,m,()) else some (e,d,())) λ(_,h,_)=>(sm (h,f,())).bind λ(k,_)=>some (k,()))
 |.inr j=>some j
def wH:ua->Option (di×di×Bool×Unit):=λ(c,d,_)=>(mB (c,())).bind λ(a,aU,_)=>(mB (d,())).bind λ(b,e,_)=>(bif aU==true then some (a,b,e,()) else some (a,b,false,()))
def zY:k7->Option fh:=λ(c,a,_)=>Option.bind (α:=Unit⊕fh) (bif (ax c==0)==false then bif ax a==0 then some (.inr ([],())) else some (.inl ()) else some (.inr ([],()))) λo=>match o with
 |.inl _=>((eo (aw (ax c+ax a)) (aw (ax c+ax a))).bind λl=>(loop (σ:=h9) (ρ:=fh) (λ(b,g,_)=>bif decide (b<ax c) then(aA c b).bind λh=>(loop (σ:=qo) (ρ:=h9) (λ(e,d,f,_)=>bif decide (d<ax a) then(aA a d).bind λi=>rd f (aw (b+d)) λj=>wr f (aw (b+d)) (dg (dq IntKind.u64 (aR (aR (aR (aR h*aR i)+aR j)+e)) 4294967295)) λs=>(dm IntKind.u64 (aR (aR (aR (aR h*aR i)+aR j)+e)) 32).bind λr=>some (.inl (r,aZ d,s,())) else some (.inr (e,f,()))) (0,0,g,())).bind λ(k,m,_)=>wr m (aw (b+ax a)) (dg k) λt=>some (.inl (aZ b,t,())) else some (.inr (g,()))) (0,List.replicate l (0:Int),())).bind λ(n,_)=>(gR (n,())).bind λ(q,_)=>some (q,()))
 |.inr p=>some p
def wS:lL->Option e4:=λ(a,b,_)=>(gR (a.2.1,())).bind λ(c,_)=>(gR (b.2.1,())).bind λ(aU,_)=>(zY (c,aU,())).bind λ(d,_)=>(jV ((!(a.1==b.1)),d,())).bind λ(e,_)=>some (e,())
def wC:ua->Option gd:=λ(b,c,_)=>(wH (b,c,())).bind λ(a,aU,d,_)=>(bif !d then(us ()).bind λ(e,_)=>some (e,()) else(wS (a.2.1,aU.2.1,())).bind λ(f,_)=>(sm (f,aw (a.2.2.1+aU.2.2.1),())).bind λ(g,_)=>some (g,()))
def wD:gd->Option gd:=λ(b,_)=>(mB (b,())).bind λ(a,d,_)=>Option.bind (α:=ua) (bif d then(qD (a.2.1,())).bind λ(aU,_)=>some ((a.1,(aU,a.2.2)),(false,((false,([],())),((0:Int),()))),()) else some (a,(false,((false,([],())),((0:Int),()))),())) λ(c,_,_)=>some (c,())
def lS:nc->Option e4:=λ(a,b,_)=>(pt (a,b,())).bind λ(c,_,_)=>some (c,())
def zr:bt->Option e3:=λ(a,_)=>some ((a !=a),())
def zp:mu->Option bt:=λ(a,b,_)=>(zr (a,())).bind λ(c,_)=>(zr (b,())).bind λ(aU,_)=>(bif c then bif aU then some (0,()) else some ((-1:Int),()) else bif aU then some (1,()) else bif decide (a<b) then some ((-1:Int),()) else bif decide (a>b) then some (1,()) else some (0,()))
def sp:k7->Option bt:=λ(b,c,_)=>(bif ax b !=ax c then(uo (ax b,ax c,())).bind λ(f,_)=>some (f,()) else((loop (σ:=bt) (ρ:=lM) (λ(a,_)=>bif decide (a>=0) then(aA b a).bind λh=>(aA c a).bind λi=>bif h !=i then(aA b a).bind λj=>(aA c a).bind λk=>(zp (j,k,())).bind λ(g,_)=>some (.inr (.inr (g,()))) else some (.inl (aw (a-1),())) else some (.inr (.inl ()))) (aw (ax b-1),())).bind λd=>match d with
 |.inl _=>(some (0,()))
 |.inr e=>some e))
def uB:k7->Option fh:=λ(b,d,_)=>(eo (ax b) (ax b)).bind λi=>(loop (σ:=qo) (ρ:=fh) (λ(e,a,c,_)=>bif decide (a<ax b) then Option.bind (α:=h9) ((aA b a).bind λg=>Option.bind (α:=h9) (bif decide (a<ax d) then(aA d a).bind λn=>some (aR (aR (aR g-e)-aR n),c,()) else some (aR (aR g-e),c,())) λ(f,j,_)=>wr j a (dg (dq IntKind.u64 f 4294967295)) λp=>(dm IntKind.u64 f 32).bind λo=>some (dq IntKind.u64 o 1,p,())) λ(h,k,_)=>some (.inl (h,aZ a,k,())) else some (.inr (c,()))) (0,0,List.replicate i (0:Int),())).bind λ(l,_)=>(gR (l,())).bind λ(m,_)=>some (m,())
def qC:lL->Option e4:=λ(a,c,_)=>(gR (a.2.1,())).bind λ(b,_)=>(gR (c.2.1,())).bind λ(aU,_)=>(bif a.1==c.1 then(sq (b,aU,())).bind λ(f,_)=>(jV (a.1,f,())).bind λ(g,_)=>some (g,()) else(sp (b,aU,())).bind λ(h,_)=>bif decide (h>=0) then(uB (b,aU,())).bind λ(i,_)=>(jV (a.1,i,())).bind λ(j,_)=>some (j,()) else(uB (aU,b,())).bind λ(d,_)=>(jV (c.1,d,())).bind λ(e,_)=>some (e,()))
def wF:(ha×Unit)->Option gd:=λ(i,_)=>(loop (σ:=(Int×Int×di×ha×Unit)) (ρ:=((Int×di×ha×Unit)⊕gd)) (λ(c,e,k,b,_)=>bif decide (e<ax i) then(aA i e).bind λw=>(mB (w,())).bind λ(a,s,_)=>bif !s then(us ()).bind λ(t,_)=>some (.inr (.inr (t,()))) else(bS (b.length+([a]).length)).bind λ_=>some (.inl ((if a.2.2.1<c then a.2.2.1 else c),aZ e,k,(b++[a]),())) else some (.inr (.inl (c,k,b,())))) (0,0,(false,((false,([],())),((0:Int),()))),[],())).bind λn=>match n with
 |.inl (h,u,f,_)=>((loop (σ:=(Int×di×ha×dp×Unit)) (ρ:=(di×dp×Unit)) (λ(d,j,g,l,_)=>bif decide (d<ax f) then rd g d λm=>(lS (m.2.1,aw (m.2.2.1-h),())).bind λ(p,_)=>(qC (l,p,())).bind λ(q,_)=>some (.inl (aZ d,j,g,q,())) else some (.inr (j,l,()))) (0,u,f,(false,([],())),())).bind λ(_,v,_)=>(sm (v,h,())).bind λ(r,_)=>some (r,()))
 |.inr o=>some o
def po:gd->Option bt:=λ(a,_)=>(mB (a,())).bind λ(b,_,_)=>(nk (b.2.1,())).bind λ(aU,_)=>some (aU,())
def qA:gd->Option gd:=λ(a,_)=>(mB (a,())).bind λ(b,_,_)=>some (b,())
def zX:lN->Option lN:=λ(a,c,_)=>(eo (ax a) (ax a)).bind λh=>(loop (σ:=qo) (ρ:=h9) (λ(e,b,d,_)=>bif decide (b>=0) then(gW IntKind.u64 e 32).bind λf=>(aA a b).bind λg=>(h3 IntKind.u64 (eP IntKind.u64 f (aR g)) (aR c)).bind λl=>wr d b (dg l) λn=>(gV (eP IntKind.u64 f (aR g)) (aR c)).bind λm=>some (.inl (m,aw (b-1),n,())) else some (.inr (e,d,()))) (0,aw (ax a-1),List.replicate h (0:Int),())).bind λ(k,i,_)=>(gR (i,())).bind λ(j,_)=>some (j,dg k,())
def zZ:bt->Option bt:=λ(b,_)=>(uC (b,())).bind λ(a,_)=>some (aw (32-a),())
def wU:((aX×Nat×Nat)×aX×Unit)->Option lN:=λ(b,a,_)=>(bh (b.2.2-b.2.1) (ax a)).bind λV=>(a9 b.1 (b.2.1+V) λP=>some P).bind λci=>(gW IntKind.u64 (aR ci) 32).bind λI=>(bh (b.2.2-b.2.1) (aw (ax a-1))).bind λab=>(a9 b.1 (b.2.1+ab) λT=>some T).bind λK=>(aA a (aw (ax a-1))).bind λav=>(h3 IntKind.u64 (eP IntKind.u64 I (aR K)) (aR av)).bind λa0=>(aA a (aw (ax a-1))).bind λa3=>(gV (eP IntKind.u64 I (aR K)) (aR a3)).bind λa4=>(loop (σ:=(cZ×Int×Int×aX×Unit)) (ρ:=(cZ×Int×aX×Unit)) (λ(g,h,r,m,_)=>Option.bind (α:=(cZ×aX×Unit)⊕((cZ×Int×Int×aX×Unit)⊕(cZ×Int×aX×Unit))) (bif decide (h>4294967295)==false then(aA a (aw (ax a-2))).bind λbd=>(gW IntKind.u64 r 32).bind λbl=>(bh (g.2-g.1) (aw (ax a-2))).bind λU=>(a9 m (g.1+U) λN=>some N).bind λbs=>bif decide (aR (h*aR bd)>eP IntKind.u64 bl (aR bs)) then
 some (.inl (g,m,())) else some (.inr (.inr (g,h,m,()))) else some (.inl (g,m,()))) λad=>match ad with
 |.inl (C,D,_)=>((aA a (aw (ax a-1))).bind λE=>bif decide (aR (r+aR E)>4294967295) then some (.inr (C,aR (h-1),D,())) else some (.inl (C,aR (h-1),aR (r+aR E),D,())))
 |.inr am=>some am) (b.2,a0,a4,b.1,())).bind λ(an,i,ap,_)=>(loop (σ:=(cZ×Int×Int×Int×aX×Unit)) (ρ:=(cZ×Int×Int×aX×Unit)) (λ(e,l,p,j,n,_)=>bif decide (j<ax a) then(aA a j).bind λu=>(dm IntKind.u64 (aR (aR (i*aR u)+l)) 32).bind λbB=>(bh (e.2-e.1) j).bind λW=>(a9 n (e.1+W) λO=>some O).bind λF=>(bh (e.2-e.1) j).bind λy=>(a9 n (e.1+y) λ_=>some (n.set (e.1+y) (dg (dq IntKind.u64 (aR (aR (aR F-dq IntKind.u64 (aR (aR (i*aR u)+l)) 4294967295)-p)) 4294967295)))).bind λc1=>(dm IntKind.u64 (aR (aR (aR F-dq IntKind.u64 (aR (aR (i*aR u)+l)) 4294967295)-p)) 32).bind λce=>some (.inl (e,bB,dq IntKind.u64 ce 1,aZ j,c1,())) else some (.inr (e,l,p,n,()))) (an,0,0,0,ap,())).bind λ(c,x,w,s,_)=>(bh (c.2-c.1) (ax a)).bind λX=>(a9 s (c.1+X) λQ=>some Q).bind λG=>
 (bh (c.2-c.1) (ax a)).bind λz=>(a9 s (c.1+z) λ_=>some (s.set (c.1+z) (dg (dq IntKind.u64 (aR (aR (aR G-x)-w)) 4294967295)))).bind λv=>(dm IntKind.u64 (aR (aR (aR G-x)-w)) 32).bind λco=>(bif dq IntKind.u64 co 1==0 then bif Nat.beq c.1 b.2.1&&(Nat.beq c.2 b.2.2&&(Nat.beq v.length ((b.1).length)&&Nat.blt c.1 c.2)) then some (v,dg i,()) else none else(loop (σ:=(cZ×Int×Int×aX×Unit)) (ρ:=(cZ×Int×aX×Unit)) (λ(f,q,k,o,_)=>bif decide (k<ax a) then(aA a k).bind λH=>(bh (f.2-f.1) k).bind λY=>(a9 o (f.1+Y) λR=>some R).bind λJ=>(bh (f.2-f.1) k).bind λA=>(a9 o (f.1+A) λ_=>some (o.set (f.1+A) (dg (dq IntKind.u64 (aR (aR (aR J+aR H)+q)) 4294967295)))).bind λc2=>(dm IntKind.u64 (aR (aR (aR J+aR H)+q)) 32).bind λcs=>some (.inl (f,cs,aZ k,c2,())) else some (.inr (f,q,o,()))) (c,0,0,v,())).bind λ(d,M,t,_)=>
 (bh (d.2-d.1) (ax a)).bind λZ=>(a9 t (d.1+Z) λS=>some S).bind λcv=>(bh (d.2-d.1) (ax a)).bind λB=>(a9 t (d.1+B) λ_=>some (t.set (d.1+B) (dg (cv+dg M)))).bind λL=>bif Nat.beq d.1 b.2.1&&(Nat.beq d.2 b.2.2&&(Nat.beq L.length ((b.1).length)&&Nat.blt d.1 d.2)) then some (L,dg (aR (i-1)),()) else none)
def wV:k7->Option k7:=λ(a,b,_)=>(sp (a,b,())).bind λ(t,_)=>(bif decide (t<0) then(su (a,())).bind λ(u,_)=>some ([],u,()) else bif ax b==1 then(aA b 0).bind λC=>(zX (a,C,())).bind λ(v,w,_)=>(gR ([w],())).bind λ(x,_)=>some (v,x,()) else(aA b (aw (ax b-1))).bind λD=>(zZ (D,())).bind λ(h,_)=>(sr (b,h,())).bind λ(e,_)=>(eo (aZ (ax a)) (aZ (ax a))).bind λc=>(sr (a,h,())).bind λ(i,_)=>(eo (aw (ax (hZ (List.replicate c (0:Int)) i 0 (List.replicate c (0:Int)).length)-ax e)) (aw (ax (hZ (List.replicate c (0:Int)) i 0 (List.replicate c (0:Int)).length)-ax e))).bind λn=>(loop (σ:=(Int×aX×aX×Unit)) (ρ:=k7) (λ(d,p,g,_)=>bif decide (d>=0) then((fU d).bind λj=>(fU (aZ (aw (d+ax e)))).bind λk=>(gj j k g.length).bind λ_=>(vq g.length).map λ_=>(j,k)).bind λf=>
 bif Nat.blt f.1 f.2 then(wU ((g,f.1,f.2),e,())).bind λ(r,y,_)=>wr p d y λE=>some (.inl (aw (d-1),E,r,())) else none else some (.inr (p,g,()))) (aw (ax (List.replicate n (0:Int))-1),List.replicate n (0:Int),hZ (List.replicate c (0:Int)) i 0 (List.replicate c (0:Int)).length,())).bind λ(s,q,_)=>((some (0)).bind λl=>(fU (ax e)).bind λm=>(gj l m q.length).map λ_=>(l,m)).bind λo=>(gR (((q.take o.2).drop o.1),())).bind λ(z,_)=>(uz (z,h,())).bind λ(A,_,_)=>(gR (s,())).bind λ(B,_)=>some (B,A,()))
def zW:fh->Option fh:=λ(b,_)=>(bif ax b==0 then some ([],()) else(uA (b,())).bind λ(e,_)=>(h3 IntKind.i64 (aZ e) 2).bind λh=>(sr ([1],h,())).bind λ(aU,_)=>(loop (σ:=fh) (ρ:=fh) (λ(a,_)=>(wV (b,a,())).bind λ(f,_,_)=>(sq (a,f,())).bind λ(g,_)=>(uz (g,1,())).bind λ(c,_,_)=>(sp (c,a,())).bind λ(d,_)=>bif decide (d>=0) then some (.inr (a,())) else some (.inl (c,()))) (aU,())).bind some)
def zU:e4->Option nc:=λ(a,_)=>(nk (a,())).bind λ(b,_)=>(bif decide (b<0) then some ((false,(([]:aX),())),11,()) else(gR (a.2.1,())).bind λ(c,_)=>(zW (c,())).bind λ(aU,_)=>(jV (false,aU,())).bind λ(d,_)=>some (d,0,()))
def wR:lL->Option bt:=λ(b,c,_)=>(nk (b,())).bind λ(a,_)=>(nk (c,())).bind λ(aU,_)=>(bif decide (a<aU) then some ((-1:Int),()) else bif decide (a>aU) then some (1,()) else(gR (b.2.1,())).bind λ(d,_)=>(gR (c.2.1,())).bind λ(e,_)=>(sp (d,e,())).bind λ(f,_)=>some (aw (a*f),()))
def zD:(di×Int×Unit)->Option (qn×Unit):=λ(c,a,_)=>(pq (c.2.1,())).bind λ(b,_)=>Option.bind (α:=(Int×qn×Unit)) ((gV (aw (c.2.2.1-(if(aw (aw (2*aw (a+3))-b))>0 then aw (aw (2*aw (a+3))-b) else 0))) 2).bind λj=>bif j !=0 then some (aZ (if(aw (aw (2*aw (a+3))-b))>0 then aw (aw (2*aw (a+3))-b) else 0),(false,((false,([],())),((0:Int),(false,())))),()) else some ((if(aw (aw (2*aw (a+3))-b))>0 then aw (aw (2*aw (a+3))-b) else 0),(false,((false,([],())),((0:Int),(false,())))),())) λ(e,_,_)=>(lS (c.2.1,e,())).bind λ(f,_)=>(zU (f,())).bind λ(d,_,_)=>(h3 IntKind.i64 (aw (c.2.2.1-e)) 2).bind λi=>(wS (d,d,())).bind λ(g,_)=>(wR (g,f,())).bind λ(h,_)=>some ((false,(d,(i,((h !=0),())))),())
def zB:(qn×Unit)->Option bt:=λ(a,_)=>(pq (a.2.1,())).bind λ(b,_)=>some (aw (aw (a.2.2.1+b)-1),())
def zV:lL->Option e4:=λ(b,a,_)=>(qC (b,((!a.1),a.2),())).bind λ(c,_)=>some (c,())
def wE:(qn×Int×Unit)->Option (dp×Int×Bool×Unit):=λ(a,b,_)=>(pq (a.2.1,())).bind λ(h,_)=>(bif decide (b>h) then some ((false,(([]:aX),())),(-1:Int),false,()) else(wG (a.2.1,b,())).bind λ(aU,_)=>(lS (aU,b,())).bind λ(i,_)=>(zV (a.2.1,i,())).bind λ(c,_)=>(uy (1,())).bind λ(j,_)=>(lS (j,aw (b-1),())).bind λ(k,_)=>(wR (c,k,())).bind λ(d,_)=>Option.bind (α:=(Int×dp×dp×Unit)) (bif (d==0)==true then bif a.2.2.2.1 then some (1,aU,c,()) else some (d,aU,c,()) else some (d,aU,c,())) λ(e,f,l,_)=>(nk (l,())).bind λ(g,_)=>bif (g==0)==true then some (f,e,(!a.2.2.2.1),()) else some (f,e,false,()))
def zC:(qn×Int×Int×Unit)->Option e4:=λ(c,e,d,_)=>Option.bind (α:=(Int×Bool×dp×dp×Unit)) (bif decide (e<=c.2.2.1) then(lS (c.2.1,aw (c.2.2.1-e),())).bind λ(aU,_)=>some ((-1:Int),true,(false,([],())),aU,()) else(wE (c,aw (e-c.2.2.1),())).bind λ(s,t,u,_)=>some (t,u,(false,([],())),s,())) λ(f,l,b,a,_)=>Option.bind (α:=(Bool×dp×dp×Unit)) (bif l then some (false,b,a,()) else bif d==1 then some (c.1,b,a,()) else bif d==2 then some ((!c.1),b,a,()) else bif d==3 then some (false,b,a,()) else bif decide (f>0)==false then bif (f==0)==true then(nk (a,())).bind λ(n,_)=>bif (n !=0)==true then(wT (a,())).bind λ(o,_)=>some ((o==0),b,a,()) else some (false,b,a,()) else some (false,b,a,()) else some (true,b,a,())) λ(k,i,g,_)=>Option.bind (α:=lL) (bif k then(uy (1,())).bind λ(p,_)=>(qC (g,p,())).bind λ(q,_)=>some (i,q,()) else some (i,g,())) λ(j,h,_)=>Option.bind (α:=lL) (bif c.1 then(qD (h,())).bind λ(r,_)=>some (j,r,()) else some (j,h,())) λ(_,m,_)=>some (m,())
def ux:e4->Option e4:=λ(a,_)=>(su (a.2.1,())).bind λ(b,_)=>(jV (false,b,())).bind λ(c,_)=>some (c,())
def zS:e4->Option cT:=λ(c,_)=>(gR (c.2.1,())).bind λ(d,_)=>(bif decide (ax d>2) then some (0,false,()) else((loop (σ:=mu) (ρ:=bt) (λ(e,b,_)=>bif decide (b<ax d) then(aA d b).bind λj=>(gW IntKind.u64 (aR j) (aw (32*b))).bind λk=>some (.inl (eP IntKind.u64 e k,aZ b,())) else some (.inr (e,()))) (0,0,())).bind λ(a,_)=>Option.bind (α:=Unit⊕cT) (Option.bind (α:=e3) (bif c.1==true then bif decide (a>0)==true then some (decide (a<=9223372036854775808),()) else some (false,()) else some (false,())) λ(h,_)=>bif h then some (.inr (aw (aw (0-aw (aR (a-1)))-1),true,())) else Option.bind (α:=e3) (bif decide (a<9223372036854775808)==true then bif (!c.1)==false then some ((a==0),()) else some (true,()) else some (false,())) λ(i,_)=>bif i then some (.inr (aw a,true,())) else some (.inl ())) λf=>match f with
 |.inl _=>(some (0,false,()))
 |.inr g=>some g))
def so:cT->Option bt:=λ(a,b,_)=>(bif b then some (eP IntKind.u64 a 9223372036854775808,()) else some (a,()))
def zJ:cV->Option bt:=λ(a,b,_)=>Option.bind (α:=Unit⊕bt) (Option.bind (α:=e3) (bif (b==3)==false then bif (b==1)==true then bif (!a)==false then bif (b==2)==true then some (a,()) else some (false,()) else some (true,()) else bif (b==2)==true then some (a,()) else some (false,()) else some (true,())) λ(f,_)=>bif f then(so (9218868437227405311,a,())).bind λ(aU,_)=>some (.inr (aU,())) else some (.inl ())) λc=>match c with
 |.inl _=>((so (9218868437227405312,a,())).bind λ(e,_)=>some (e,()))
 |.inr d=>some d
def wL:(qn×Int×Unit)->Option bt:=λ(b,d,_)=>(zB (b,())).bind λ(a,_)=>(zC (b,(if(-1074:Int)>aw (a-52) then(-1074:Int) else aw (a-52)),d,())).bind λ(aU,_)=>(ux (aU,())).bind λ(j,_)=>(zS (j,())).bind λ(f,_,_)=>Option.bind (α:=mu) (bif aR f==9007199254740992 then some (aZ (if(-1074:Int)>aw (a-52) then(-1074:Int) else aw (a-52)),4503599627370496,()) else some ((if(-1074:Int)>aw (a-52) then(-1074:Int) else aw (a-52)),aR f,())) λ(e,c,_)=>(bif decide (c<4503599627370496) then(so (c,b.1,())).bind λ(g,_)=>some (g,()) else bif decide (aw (e+1075)>=2047) then(zJ (b.1,d,())).bind λ(h,_)=>some (h,()) else(gW IntKind.u64 (aR (aw (e+1075))) 52).bind λk=>(so (eP IntKind.u64 k (aR (c-4503599627370496)),b.1,())).bind λ(i,_)=>some (i,()))
def wK:(di×Int×Unit)->Option bt:=λ(c,e,_)=>(qA (c,())).bind λ(a,_)=>Option.bind (α:=gd⊕bt) (Option.bind (α:=(Bool×di×Unit)) (bif a.1==false then(po (a,())).bind λ(aU,_)=>some (decide (aU<0),a,()) else some (true,a,())) λ(k,b,_)=>bif k then some (.inr (9221120237041090560,())) else(po (b,())).bind λ(i,_)=>bif i==0 then some (.inr (0,())) else some (.inl (b,()))) λf=>match f with
 |.inl (d,_)=>((zD (d,56,())).bind λ(j,_)=>(wL (j,e,())).bind λ(h,_)=>some (h,()))
 |.inr g=>some g
def wI:bt->Option bt:=λ(c,_)=>(uu (c,())).bind λ(a,b,_)=>Option.bind (α:=e3) (bif (a==2047)==true then some ((b !=0),()) else some (false,())) λ(d,_)=>(bif d then some (3,()) else bif a==2047 then some (2,()) else bif (a==0)==true then bif b==0 then some (0,()) else some (1,()) else some (1,()))
def zR:lL->Option (dp×dp×Int×Unit):=λ(a,d,_)=>(gR (d.2.1,())).bind λ(b,_)=>(bif ax b==0 then some ((false,(([]:aX),())),(false,(([]:aX),())),8,()) else(gR (a.2.1,())).bind λ(aU,_)=>(wV (aU,b,())).bind λ(f,c,_)=>Option.bind (α:=(aX×aX×dp×dp×Unit)) (Option.bind (α:=(Bool×dp×dp×Unit)) (bif a.1==true then some (decide (ax c>0),(false,([],())),(false,([],())),()) else some (false,(false,([],())),(false,([],())),())) λ(n,e,g,_)=>bif n then(sq (f,[1],())).bind λ(j,_)=>(uB (b,c,())).bind λ(k,_)=>some (j,k,e,g,()) else some (f,c,e,g,())) λ(h,i,_,_,_)=>(jV ((!(a.1==d.1)),h,())).bind λ(l,_)=>(jV (false,i,())).bind λ(m,_)=>some (l,m,0,()))
def zA:(di×di×Int×Unit)->Option (qn×Unit):=λ(a,b,c,_)=>(pq (b.2.1,())).bind λ(aU,_)=>(pq (a.2.1,())).bind λ(d,_)=>(ux (a.2.1,())).bind λ(g,_)=>(lS (g,(if(aw (aw (aw (c+3)+aU)-d))>0 then aw (aw (aw (c+3)+aU)-d) else 0),())).bind λ(h,_)=>(ux (b.2.1,())).bind λ(i,_)=>(zR (h,i,())).bind λ(j,e,_,_)=>(nk (e,())).bind λ(f,_)=>some (((!(a.2.1.1==b.2.1.1)),(j,(aw (aw (a.2.2.1-(if(aw (aw (aw (c+3)+aU)-d))>0 then aw (aw (aw (c+3)+aU)-d) else 0))-b.2.2.1),((f !=0),())))),())
def wJ:(di×di×Int×Unit)->Option bt:=λ(c,f,h,_)=>(qA (c,())).bind λ(aU,_)=>(qA (f,())).bind λ(a,_)=>Option.bind (α:=ua⊕bt) (Option.bind (α:=(Bool×di×di×Unit)) (bif aU.1==false then bif a.1==false then(po (a,())).bind λ(n,_)=>some ((n==0),aU,a,()) else some (true,aU,a,()) else some (true,aU,a,())) λ(o,b,g,_)=>bif o then some (.inr (9221120237041090560,())) else(po (b,())).bind λ(k,_)=>bif k==0 then some (.inr (0,())) else some (.inl (b,g,()))) λi=>match i with
 |.inl (d,e,_)=>((zA (d,e,56,())).bind λ(l,_)=>(wL (l,h,())).bind λ(m,_)=>some (m,()))
 |.inr j=>some j
def uL:bt->Option e3:=λ(a,_)=>(dm IntKind.u64 a 52).bind λb=>some ((dq IntKind.u64 b 2047 !=2047),())
def AD:bt->Option e3:=λ(a,_)=>some ((dq IntKind.u64 a 9223372036854775808 !=0),())
def AE:bt->Option gd:=λ(a,_)=>(uL (a,())).bind λ(f,_)=>(bif !f then(uI ()).bind λ(g,_)=>some (g,()) else(dm IntKind.u64 a 52).bind λc=>Option.bind (α:=(Int×Int×di×Unit)) (bif decide (aw (dq IntKind.u64 c 2047)>0) then some (eP IntKind.u64 (dq IntKind.u64 a 4503599627370495) 4503599627370496,aw (aw (dq IntKind.u64 c 2047)-1075),(false,((false,([],())),((0:Int),()))),()) else some (dq IntKind.u64 a 4503599627370495,(-1074:Int),(false,((false,([],())),((0:Int),()))),())) λ(b,d,_,_)=>(AD (a,())).bind λ(h,_)=>(dm IntKind.u64 b 32).bind λi=>(pv ((h,([dg b,dg i],())),d,())).bind λ(e,_)=>some (e,()))
def Az:gd->Option gd:=λ(b,_)=>(uJ (b,())).bind λ(a,_)=>(bif a.1 then some (a,()) else(uG (a.2.1,())).bind λ(c,_)=>(pv (c,a.2.2.1,())).bind λ(aU,_)=>some (aU,()))
def AB:(ha×Unit)->Option gd:=λ(h,_)=>(loop (σ:=(Int×Int×di×dp×Unit)) (ρ:=((Int×di×dp×Unit)⊕gd)) (λ(b,e,c,d,_)=>bif decide (e<ax h) then(Option.bind (α:=(Int×di×dp×Unit)⊕((Int×Int×di×dp×Unit)⊕((Int×di×dp×Unit)⊕gd))) ((aA h e).bind λv=>(uJ (v,())).bind λ(a,_)=>bif a.1 then(uI ()).bind λ(q,_)=>some (.inr (.inr (.inr (q,())))) else(qH (a.2.1,())).bind λ(r,_)=>bif r==0 then some (.inl (b,c,d,())) else(qH (d,())).bind λ(k,_)=>bif k==0 then some (.inl (a.2.2.1,c,a.2.1,())) else bif decide (a.2.2.1>=b) then(nl (a.2.1,aw (a.2.2.1-b),())).bind λ(l,_)=>(sx (d,l,())).bind λ(m,_)=>some (.inl (b,c,m,())) else(nl (d,aw (b-a.2.2.1),())).bind λ(n,_)=>(sx (n,a.2.1,())).bind λ(o,_)=>some (.inl (a.2.2.1,c,o,()))) λf=>match f with
 |.inl (i,s,t,_)=>(some (.inl (i,aZ e,s,t,())))
 |.inr g=>some g) else some (.inr (.inl (b,c,d,())))) (0,0,(false,((false,([],())),((0:Int),()))),(false,(([]:aX),())),())).bind λf=>match f with
 |.inl (j,_,u,_)=>((pv (u,j,())).bind λ(p,_)=>some (p,()))
 |.inr g=>some g
def zE:ua->Option (dp×dp×Int×Unit):=λ(a,b,_)=>(lS (a.2.1,aw (a.2.2.1-(if b.2.2.1<a.2.2.1 then b.2.2.1 else a.2.2.1)),())).bind λ(c,_)=>(lS (b.2.1,aw (b.2.2.1-(if b.2.2.1<a.2.2.1 then b.2.2.1 else a.2.2.1)),())).bind λ(aU,_)=>some (c,aU,(if b.2.2.1<a.2.2.1 then b.2.2.1 else a.2.2.1),())
def zz:ua->Option gd:=λ(a,b,_)=>(wH (a,b,())).bind λ(e,aU,f,_)=>(bif !f then(us ()).bind λ(g,_)=>some (g,()) else(zE (e,aU,())).bind λ(h,i,j,_)=>(qC (h,i,())).bind λ(c,_)=>(sm (c,j,())).bind λ(d,_)=>some (d,()))
def sn:gd->Option e3:=λ(a,_)=>(mB (a,())).bind λ(_,b,_)=>some (b,())
def Aa:cQ->Option e3:=λ(a,c,b,_)=>(bif decide (a>=c)==true then some (decide (a<=b),()) else some (false,()))
def Ag:fh->Option e3:=λ(b,_)=>(loop (σ:=bt) (ρ:=nY) (λ(a,_)=>bif decide (a>0) then(aA b a).bind λf=>(aA b (aw (a-1))).bind λg=>(sl (f,g,())).bind λ(e,_)=>bif e then some (.inr (.inr (false,()))) else some (.inl (aw (a-1),())) else some (.inr (.inl ()))) (aw (ax b-1),())).bind λc=>match c with
 |.inl _=>(some (true,()))
 |.inr d=>some d
def z7:k8->Option e3:=λ(a,_)=>Option.bind (α:=Unit⊕e3) (bif (ax a.2.2.1 !=aZ a.2.1)==false then(aA a.2.2.1 0).bind λm=>bif (m !=0)==false then(Ag (a.2.2.1,())).bind λ(l,_)=>bif (!l)==false then(aA a.2.2.1 a.2.1).bind λn=>bif (n !=ax a.2.2.2.1)==false then bif ax a.2.2.2.1 !=ax a.2.2.2.2.1 then some (.inr (false,())) else some (.inl ()) else some (.inr (false,())) else some (.inr (false,())) else some (.inr (false,())) else some (.inr (false,()))) λb=>match b with
 |.inl _=>((loop (σ:=bt) (ρ:=nY) (λ(e,_)=>bif decide (e<a.2.1) then((aA a.2.2.1 e).bind λo=>(aA a.2.2.1 (aZ e)).bind λp=>((fU o).bind λh=>(fU p).bind λi=>(gj h i (a.2.2.2.1).length).map λ_=>(h,i)).bind λd=>(loop (σ:=mu) (ρ:=(Unit⊕(bt⊕nY))) (λ(j,f,_)=>bif decide (f<ax (((a.2.2.2.1).take d.2).drop d.1)) then(Option.bind (α:=bt⊕(mu⊕(Unit⊕(bt⊕nY)))) ((aA (((a.2.2.2.1).take d.2).drop d.1) f).bind λg=>Option.bind (α:=Unit⊕(bt⊕(mu⊕(Unit⊕(bt⊕nY))))) (bif decide (g<=j)==false then bif decide (g>=a.1) then some (.inr (.inr (.inr (.inr (.inr (.inr (false,()))))))) else some (.inl ()) else some (.inr (.inr (.inr (.inr (.inr (.inr (false,())))))))) λb=>match b with
 |.inl _=>(some (.inl (g,())))
 |.inr c=>some c) λb=>match b with
 |.inl (k,_)=>(some (.inl (k,aZ f,())))
 |.inr c=>some c) else some (.inr (.inl ()))) ((-1:Int),0,())).bind λb=>match b with
 |.inl _=>(some (.inl (aZ e,())))
 |.inr c=>some c) else some (.inr (.inl ()))) (0,())).bind λb=>match b with
 |.inl _=>(some (true,()))
 |.inr c=>some c)
 |.inr c=>some c
def Dy:bt->Option e3:=λ(a,_)=>(qB (a,())).bind λ(b,_)=>some ((!b),())
def DA:(aX×Unit×Unit)->Option bt:=λ(b,_,_)=>(loop (σ:=bt) (ρ:=lM) (λ(a,_)=>bif decide (a<ax b) then(aA b a).bind λf=>(Dy (f,())).bind λ(e,_)=>bif e then some (.inr (.inr (a,()))) else some (.inl (aZ a,())) else some (.inr (.inl ()))) (0,())).bind λc=>match c with
 |.inl _=>(some ((-1:Int),()))
 |.inr d=>some d
def Ac:(aX×Unit×Unit)->Option e3:=λ(b,_,_)=>(DA (b,(),())).bind λ(a,_)=>some (decide (a>=0),())
def qE:k8->Option bt:=λ(a,_)=>Option.bind (α:=e3) ((Aa (a.1,0,200,())).bind λ(b,_)=>bif (!b)==false then(Aa (a.2.1,0,200,())).bind λ(c,_)=>bif (!c)==false then some (decide (ax a.2.2.2.1>10000),()) else some (true,()) else some (true,())) λ(f,_)=>(bif f then some (6,()) else(z7 (a,())).bind λ(d,_)=>bif !d then some (1,()) else(Ac (a.2.2.2.2.1,(),())).bind λ(e,_)=>bif e then some (4,()) else some (0,()))
def AR:lN->Option (aX×Bool×Unit):=λ(h,a,_)=>(bif ax h !=a then some ([],false,()) else((eo a a).bind λi=>(eo a a).bind λj=>(loop (σ:=(Int×aX×gy×Unit)) (ρ:=(fh⊕(aX×Bool×Unit))) (λ(f,e,g,_)=>bif decide (f<ax h) then(Option.bind (α:=(aX×gy×Unit)⊕((Int×aX×gy×Unit)⊕(fh⊕(aX×Bool×Unit)))) ((aA h f).bind λd=>Option.bind (α:=(aX×gy×Unit)⊕((aX×gy×Unit)⊕((Int×aX×gy×Unit)⊕(fh⊕(aX×Bool×Unit))))) (Option.bind (α:=(Bool×aX×gy×Unit)) (bif decide (d<0)==false then bif decide (d>=a)==false then rd g d λs=>some (s,e,g,()) else some (true,e,g,()) else some (true,e,g,())) λ(o,k,p,_)=>bif o then some (.inr (.inr (.inr (.inr ([],false,()))))) else some (.inl (k,p,()))) λb=>match b with
 |.inl (l,q,_)=>(wr l d f λt=>wr q d true λu=>some (.inl (t,u,())))
 |.inr c=>some c) λb=>match b with
 |.inl (m,r,_)=>(some (.inl (aZ f,m,r,())))
 |.inr c=>some c) else some (.inr (.inl (e,())))) (0,List.replicate i (0:Int),List.replicate j false,())).bind λb=>match b with
 |.inl (n,_)=>(some (n,true,()))
 |.inr c=>some c))
def uE:k8->Option ja:=λ(b,_)=>(loop (σ:=pe) (ρ:=ja) (λ(a,e,_)=>bif decide (a<b.2.1) then(aA b.2.2.1 a).bind λj=>(loop (σ:=pe) (ρ:=ja) (λ(c,d,_)=>(aA b.2.2.1 (aZ a)).bind λk=>bif decide (c<k) then(aA b.2.2.2.1 c).bind λf=>(aA b.2.2.2.2.1 c).bind λg=>(bS (d.length+([(f,(a,(g,())))]).length)).bind λ_=>some (.inl (aZ c,(d++[(f,(a,(g,())))]),())) else some (.inr (d,()))) (j,e,())).bind λ(h,_)=>some (.inl (aZ a,h,())) else some (.inr (e,()))) (0,[],())).bind λ(i,_)=>some (i,())
def Dz:ja->Option ja:=λ(a,_)=>mM a.length (some ([],())) ((bS (([]:jS).length+a.length)).bind λ_=>some (([]++a),()))
def z9:((Int×(Int×bt))×(Int×(Int×bt))×Unit)->Option bt:=λ(a,b,_)=>(uo (a.2.1,b.2.1,())).bind λ(c,_)=>(uo (a.1,b.1,())).bind λ(aU,_)=>(zq ([c,aU],())).bind λ(d,_)=>some (d,())
def wY:(jS×Int×Int×Unit×Unit)->Option ja:=λ(h,e,g,_,_)=>(loop (σ:=pe) (ρ:=ja) (λ(d,f,_)=>bif decide (d<g) then(loop (σ:=pe) (ρ:=ja) (λ(a,b,_)=>Option.bind (α:=ja⊕(pe⊕ja)) (bif decide (a>e)==true then rd b a λn=>rd b (aw (a-1)) λo=>(z9 (n,o,())).bind λ(m,_)=>bif decide (m<0) then some (.inl (b,())) else some (.inr (.inr (b,()))) else some (.inr (.inr (b,())))) λk=>match k with
 |.inl (c,_)=>(rd c (aw (a-1)) λp=>rd c a λq=>wr c a p λr=>wr r (aw (a-1)) q λs=>some (.inl (aw (a-1),s,())))
 |.inr l=>some l) (d,f,())).bind λ(i,_)=>some (.inl (aZ d,i,())) else some (.inr (f,()))) (aZ e,h,())).bind λ(j,_)=>some (j,())
def DG:(jS×Int×Unit×Unit)->Option ja:=λ(g,b,_,_)=>(loop (σ:=CW) (ρ:=pe) (λ(c,a,d,_)=>bif decide (a<=b) then(wY (d,c,a,(),())).bind λ(l,_)=>some (.inl (a,aw (a+20),l,())) else some (.inr (c,d,()))) (0,20,g,())).bind λ(e,j,_)=>(wY (j,e,b,(),())).bind λ(k,_)=>(loop (σ:=pe) (ρ:=ja) (λ(f,h,_)=>bif decide (f<b) then none else some (.inr (h,()))) (20,k,())).bind λ(i,_)=>some (i,())
def DF:(jS×Unit×Unit)->Option ja:=λ(a,_,_)=>(DG (a,ax a,(),())).bind λ(b,_)=>some (b,())
def z8:ja->Option ja:=λ(a,_)=>(Dz (a,())).bind λ(c,_)=>(DF (c,(),())).bind λ(b,_)=>some (b,())
def z6:CW->Option k8:=λ(s,e,o,_)=>(eo (aZ e) (aZ e)).bind λr=>(z8 (o,())).bind λ(i,_)=>(loop (σ:=(Int×bP×bP×jS×Unit)) (ρ:=(bP×bP×Unit)) (λ(f,k,a,l,_)=>bif decide (f<ax i) then rd l f λb=>(bS ((a.2.2.2.1).length+([b.1]).length)).bind λ_=>(bS ((a.2.2.2.2.1).length+([b.2.2.1]).length)).bind λ_=>(bh (((a.1,(a.2.1,(a.2.2.1,((a.2.2.2.1++[b.1]),a.2.2.2.2)))).1,((a.1,(a.2.1,(a.2.2.1,((a.2.2.2.1++[b.1]),a.2.2.2.2)))).2.1,((a.1,(a.2.1,(a.2.2.1,((a.2.2.2.1++[b.1]),a.2.2.2.2)))).2.2.1,((a.1,(a.2.1,(a.2.2.1,((a.2.2.2.1++[b.1]),a.2.2.2.2)))).2.2.2.1,(((a.1,(a.2.1,(a.2.2.1,((a.2.2.2.1++[b.1]),a.2.2.2.2)))).2.2.2.2.1++[b.2.2.1]),(a.1,(a.2.1,(a.2.2.1,((a.2.2.2.1++[b.1]),a.2.2.2.2)))).2.2.2.2.2))))).2.2.1).length (aZ b.2.1)).bind λn=>(a9 ((a.1,(a.2.1,(a.2.2.1,((a.2.2.2.1++[b.1]),a.2.2.2.2)))).1,((a.1,(a.2.1,(a.2.2.1,((a.2.2.2.1++[b.1]),a.2.2.2.2)))).2.1,((a.1,(a.2.1,(a.2.2.1,((a.2.2.2.1++[b.1]),a.2.2.2.2)))).2.2.1,((a.1,(a.2.1,(a.2.2.1,((a.2.2.2.1++[b.1]),a.2.2.2.2)))).2.2.2.1,(((a.1,(a.2.1,(a.2.2.1,((a.2.2.2.1++[b.1]),a.2.2.2.2)))).2.2.2.2.1++[b.2.2.1]),(a.1,(a.2.1,(a.2.2.1,((a.2.2.2.1++[b.1]),a.2.2.2.2)))).2.2.2.2.2))))).2.2.1 n λm=>some m).bind λu=>
 (bh (((a.1,(a.2.1,(a.2.2.1,((a.2.2.2.1++[b.1]),a.2.2.2.2)))).1,((a.1,(a.2.1,(a.2.2.1,((a.2.2.2.1++[b.1]),a.2.2.2.2)))).2.1,((a.1,(a.2.1,(a.2.2.1,((a.2.2.2.1++[b.1]),a.2.2.2.2)))).2.2.1,((a.1,(a.2.1,(a.2.2.1,((a.2.2.2.1++[b.1]),a.2.2.2.2)))).2.2.2.1,(((a.1,(a.2.1,(a.2.2.1,((a.2.2.2.1++[b.1]),a.2.2.2.2)))).2.2.2.2.1++[b.2.2.1]),(a.1,(a.2.1,(a.2.2.1,((a.2.2.2.1++[b.1]),a.2.2.2.2)))).2.2.2.2.2))))).2.2.1).length (aZ b.2.1)).bind λg=>((((a9 ((a.1,(a.2.1,(a.2.2.1,((a.2.2.2.1++[b.1]),a.2.2.2.2)))).1,((a.1,(a.2.1,(a.2.2.1,((a.2.2.2.1++[b.1]),a.2.2.2.2)))).2.1,((a.1,(a.2.1,(a.2.2.1,((a.2.2.2.1++[b.1]),a.2.2.2.2)))).2.2.1,((a.1,(a.2.1,(a.2.2.1,((a.2.2.2.1++[b.1]),a.2.2.2.2)))).2.2.2.1,(((a.1,(a.2.1,(a.2.2.1,((a.2.2.2.1++[b.1]),a.2.2.2.2)))).2.2.2.2.1++[b.2.2.1]),(a.1,(a.2.1,(a.2.2.1,((a.2.2.2.1++[b.1]),a.2.2.2.2)))).2.2.2.2.2))))).2.2.1 g λ_=>some ((((a.1,(a.2.1,(a.2.2.1,((a.2.2.2.1++[b.1]),a.2.2.2.2)))).1,((a.1,(a.2.1,(a.2.2.1,((a.2.2.2.1++[b.1]),a.2.2.2.2)))).2.1,((a.1,(a.2.1,(a.2.2.1,((a.2.2.2.1++[b.1]),a.2.2.2.2)))).2.2.1,((a.1,(a.2.1,(a.2.2.1,((a.2.2.2.1++[b.1]),a.2.2.2.2)))).2.2.2.1,(((a.1,(a.2.1,(a.2.2.1,((a.2.2.2.1++[b.1]),a.2.2.2.2)))).2.2.2.2.1++[b.2.2.1]),(a.1,(a.2.1,(a.2.2.1,((a.2.2.2.1++[b.1]),a.2.2.2.2)))).2.2.2.2.2))))).2.2.1).set g (aZ u))).map λx=>(x,((a.1,(a.2.1,(a.2.2.1,((a.2.2.2.1++[b.1]),a.2.2.2.2)))).1,((a.1,(a.2.1,(a.2.2.1,((a.2.2.2.1++[b.1]),a.2.2.2.2)))).2.1,((a.1,(a.2.1,(a.2.2.1,((a.2.2.2.1++[b.1]),a.2.2.2.2)))).2.2.1,((a.1,(a.2.1,(a.2.2.1,((a.2.2.2.1++[b.1]),a.2.2.2.2)))).2.2.2.1,(((a.1,(a.2.1,(a.2.2.1,((a.2.2.2.1++[b.1]),a.2.2.2.2)))).2.2.2.2.1++[b.2.2.1]),(a.1,(a.2.1,(a.2.2.1,((a.2.2.2.1++[b.1]),a.2.2.2.2)))).2.2.2.2.2))))).2.2.2)).map λy=>(((a.1,(a.2.1,(a.2.2.1,((a.2.2.2.1++[b.1]),a.2.2.2.2)))).1,((a.1,(a.2.1,(a.2.2.1,((a.2.2.2.1++[b.1]),a.2.2.2.2)))).2.1,((a.1,(a.2.1,(a.2.2.1,((a.2.2.2.1++[b.1]),a.2.2.2.2)))).2.2.1,((a.1,(a.2.1,(a.2.2.1,((a.2.2.2.1++[b.1]),a.2.2.2.2)))).2.2.2.1,(((a.1,(a.2.1,(a.2.2.1,((a.2.2.2.1++[b.1]),a.2.2.2.2)))).2.2.2.2.1++[b.2.2.1]),(a.1,(a.2.1,(a.2.2.1,((a.2.2.2.1++[b.1]),a.2.2.2.2)))).2.2.2.2.2))))).2.1,y)).map λz=>(((a.1,(a.2.1,(a.2.2.1,((a.2.2.2.1++[b.1]),a.2.2.2.2)))).1,((a.1,(a.2.1,(a.2.2.1,((a.2.2.2.1++[b.1]),a.2.2.2.2)))).2.1,((a.1,(a.2.1,(a.2.2.1,((a.2.2.2.1++[b.1]),a.2.2.2.2)))).2.2.1,((a.1,(a.2.1,(a.2.2.1,((a.2.2.2.1++[b.1]),a.2.2.2.2)))).2.2.2.1,(((a.1,(a.2.1,(a.2.2.1,((a.2.2.2.1++[b.1]),a.2.2.2.2)))).2.2.2.2.1++[b.2.2.1]),(a.1,(a.2.1,(a.2.2.1,((a.2.2.2.1++[b.1]),a.2.2.2.2)))).2.2.2.2.2))))).1,z)).bind λA=>
 some (.inl (aZ f,k,A,l,())) else some (.inr (k,a,()))) (0,((0:Int),((0:Int),([],([],([],()))))),(s,(e,(List.replicate r (0:Int),(([]:aX),(([]:aX),()))))),i,())).bind λ(t,p,_)=>(loop (σ:=(Int×bP×bP×Unit)) (ρ:=(bP×bP×Unit)) (λ(d,j,c,_)=>bif decide (d<e) then rd c.2.2.1 (aZ d) λv=>rd c.2.2.1 d λw=>(bh (c.2.2.1).length (aZ d)).bind λh=>((((a9 c.2.2.1 h λ_=>some ((c.2.2.1).set h (aw (v+w)))).map λB=>(B,c.2.2.2)).map λC=>(c.2.1,C)).map λD=>(c.1,D)).bind λE=>some (.inl (aZ d,j,E,())) else some (.inr (j,c,()))) (0,t,p,())).bind λ(_,q,_)=>some (q,())
def z5:k8->Option (bP×Int×Unit):=λ(a,_)=>(qE (a,())).bind λ(aU,_)=>(bif aU !=0 then some (((0:Int),((0:Int),(([]:aX),(([]:aX),(([]:aX),()))))),aU,()) else(uE (a,())).bind λ(g,_)=>(loop (σ:=(Int×bP×jS×jS×Unit)) (ρ:=(bP×jS×Unit)) (λ(d,e,b,f,_)=>bif decide (d<ax g) then Option.bind (α:=(bP×jS×jS×Unit)) (rd f d λc=>bif decide (c.1>=c.2.1) then(bS (b.length+([c]).length)).bind λ_=>some (e,(b++[c]),f,()) else some (e,b,f,())) λ(k,h,l,_)=>some (.inl (aZ d,k,h,l,())) else some (.inr (e,b,()))) (0,((0:Int),((0:Int),([],([],([],()))))),[],g,())).bind λ(_,i,_)=>(z6 (a.1,a.2.1,i,())).bind λ(j,_)=>some (j,0,()))
def z2:k8->Option ja:=λ(a,_)=>(qE (a,())).bind λ(aU,_)=>(bif aU !=0 then some ([],()) else(uE (a,())).bind λ(b,_)=>some (b,()))
def wM:k8->Option ((List aX×Unit)×Int×Unit):=λ(a,_)=>(qE (a,())).bind λ(c,_)=>(bif c !=0 then some ((([]:List aX),()),c,()) else bif a.1 !=a.2.1 then some ((([]:List aX),()),5,()) else(wN (a.2.1,())).bind λ(j,_)=>(z2 (a,())).bind λ(aU,_)=>(loop (σ:=(Int×(List aX×Unit)×List gy×jS×Unit)) (ρ:=((List aX×Unit)×List gy×Unit)) (λ(b,d,e,f,_)=>bif decide (b<ax aU) then rd f b λg=>(wQ (e,g.1,g.2.1,())).bind λ(h,_)=>some (.inl (aZ b,d,h,f,())) else some (.inr (d,e,()))) (0,([],()),j,aU,())).bind λ(_,k,_)=>(wP (k,())).bind λ(i,_)=>some (i,0,()))
def qK:(bP×aX×Unit)->Option (Option lK×Int×Unit):=λ(a,q,_)=>(qE (a,())).bind λ(r,_)=>(bif r !=0 then some (none,r,()) else bif a.1 !=a.2.1 then some (none,5,()) else(AR (q,a.2.1,())).bind λ(s,E,_)=>bif !E then some (none,90,()) else(z5 (a,())).bind λ(F,_,_)=>(wM (F,())).bind λ(G,_,_)=>(wO (G,q,())).bind λ(t,_,_)=>(eo a.2.1 a.2.1).bind λp=>(loop (σ:=(Int×bP×lK×Unit)) (ρ:=(bP×lK×Unit)) (λ(j,k,c,_)=>bif decide (j<ax ((a.2.1,(t,(List.replicate p (none:Option (List (Int×di)×Nat)),()))).2.2.1)) then(bh (c.2.2.1).length j).bind λn=>((((a9 c.2.2.1 n λ_=>some ((c.2.2.1).set n (some ([],0)))).map λL=>(L,c.2.2.2)).map λM=>(c.2.1,M)).map λN=>(c.1,N)).bind λO=>some (.inl (aZ j,k,O,())) else some (.inr (k,c,()))) (0,a,(a.2.1,(t,(List.replicate p (none:Option (List (Int×di)×Nat)),()))),())).bind λ(l,z,_)=>
 (loop (σ:=(Int×bP×lK×Unit)) (ρ:=(lK×Unit)) (λ(e,m,o,_)=>bif decide (e<l.2.1) then(aA m.2.2.1 e).bind λI=>(loop (σ:=(Int×bP×lK×Unit)) (ρ:=(bP×lK×Unit)) (λ(f,d,b,_)=>(aA d.2.2.1 (aZ e)).bind λJ=>bif decide (f<J) then Option.bind (α:=(bP×lK×Unit)) ((aA d.2.2.2.1 f).bind λu=>bif decide (u>=e) then(aA s u).bind λg=>(aA s e).bind λh=>(bh (b.2.2.1).length (if h<g then h else g)).bind λi=>(aA d.2.2.2.2.1 f).bind λK=>(pp (K,())).bind λ(H,_)=>(a9 b.2.2.1 i λx=>some x).bind λC=>(pH C (if h>g then h else g) H).bind λD=>((((a9 b.2.2.1 i λ_=>some ((b.2.2.1).set i D)).map λP=>(P,b.2.2.2)).map λQ=>(b.2.1,Q)).map λR=>(b.1,R)).bind λS=>some (d,S,()) else some (d,b,())) λ(v,A,_)=>some (.inl (aZ f,v,A,())) else some (.inr (d,b,()))) (I,m,o,())).bind λ(w,B,_)=>
 some (.inl (aZ e,w,B,())) else some (.inr (o,()))) (0,l,z,())).bind λ(y,_)=>some (some y,0,()))
def wy:(Option lK×Unit)->Option (hb×Unit):=λ(d,_)=>d.bind λx=>(AP (x.2.1,())).bind λ(e,_,_)=>d.bind λk=>(eo k.1 k.1).bind λt=>d.bind λl=>(eo l.1 l.1).bind λu=>d.bind λm=>(eo m.1 m.1).bind λs=>(loop (σ:=(Int×hb×Unit)) (ρ:=(hb×Unit)) (λ(b,h,_)=>bif decide (b<ax e) then(aA e b).bind λj=>(loop (σ:=(Int×hb×Unit)) (ρ:=(hb×Unit)) (λ(f,a,_)=>bif decide (f<ax j) then Option.bind (α:=(hb×Unit)) ((aA j f).bind λg=>bif decide (g>b) then(bh (a.2.2.2.1).length g).bind λi=>(a9 a.2.2.2.1 i λq=>some q).bind λv=>(bS (v.length+([b]).length)).bind λ_=>(bh (a.2.2.2.1).length g).bind λc=>bif Nat.beq i c&&true then(a9 a.2.2.2.1 c λr=>some r).bind λw=>(((((a9 a.2.2.2.1 c λ_=>some ((a.2.2.2.1).set c (w++[b]))).map λy=>(y,a.2.2.2.2)).map λz=>(a.2.2.1,z)).map λA=>(a.2.1,A)).map λB=>(a.1,B)).bind λC=>
 some (C,()) else none else some (a,())) λ(n,_)=>some (.inl (aZ f,n,())) else some (.inr (a,()))) (0,h,())).bind λ(o,_)=>some (.inl (aZ b,o,())) else some (.inr (h,()))) (0,(e,(List.replicate t [],(List.replicate u (none:Option (List (Int×di)×Nat)),(List.replicate s [],())))),())).bind λ(p,_)=>some (p,())
def xj:(Option lK×Int×Int×Unit)->Option gd:=λ(c,a,b,_)=>c.bind λd=>(aA d.2.2.1 (if b<a then b else a)).bind λe=>some (((iS (α:=di) e (if b>a then b else a)).getD (false,((false,([],())),((0:Int),())))),())
def wA:(Option hb×Option lK×Int×Int×Unit)->Option gd:=λ(b,k,c,d,_)=>(xj (k,c,d,())).bind λ(n,_)=>b.bind λu=>(aA u.2.2.2.1 d).bind λj=>(loop (σ:=(Int×di×ha×Unit)) (ρ:=(di×ha×Unit)) (λ(e,f,a,_)=>bif decide (e<ax j) then Option.bind (α:=(di×ha×Unit)) ((aA j e).bind λh=>b.bind λr=>(aA r.2.2.1 h).bind λi=>bif (iS (α:=di) i c).isSome then b.bind λs=>(aA s.2.2.1 h).bind λt=>(wC (((iS (α:=di) i c).getD (false,((false,([],())),((0:Int),())))),((iS (α:=di) t d).getD (false,((false,([],())),((0:Int),())))),())).bind λ(l,_)=>(wD (l,())).bind λ(g,_)=>(bS (a.length+([g]).length)).bind λ_=>some (f,(a++[g]),()) else some (f,a,())) λ(o,p,_)=>some (.inl (aZ e,o,p,())) else some (.inr (f,a,()))) (0,(false,((false,([],())),((0:Int),()))),[n],())).bind λ(_,q,_)=>(wF (q,())).bind λ(m,_)=>
 some (m,())
def zn:(hb×Option lK×Int×Unit)->Option (hb×Int×Unit):=λ(c,u,b,_)=>(wA (some c,u,b,b,())).bind λ(aU,_)=>(po (aU,())).bind λ(M,_)=>(bif decide (M<=0) then some (c,231,()) else(wK (aU,0,())).bind λ(h,_)=>(wI (h,())).bind λ(N,_)=>bif N==0 then some (c,231,()) else(pp (h,())).bind λ(O,_)=>(pH (some ([],0)) b O).bind λE=>(bh (c.2.1).length b).bind λp=>(((a9 c.2.1 p λ_=>some ((c.2.1).set p [h])).map λR=>(R,c.2.2)).map λS=>(c.1,S)).bind λe=>(bh (e.2.2.1).length b).bind λq=>((((a9 e.2.2.1 q λ_=>some ((e.2.2.1).set q E)).map λT=>(T,e.2.2.2)).map λU=>(e.2.1,U)).map λV=>(e.1,V)).bind λo=>(qB (h,())).bind λ(H,_)=>bif !H then some (o,233,()) else((aA o.1 b).bind λl=>((fU 1).bind λs=>(some l.length).bind λt=>(gj s t l.length).map λ_=>(s,t)).bind λj=>
 (loop (σ:=(Int×hb×Unit)) (ρ:=((hb×Unit)⊕(hb×Int×Unit))) (λ(n,a,_)=>bif decide (n<ax ((l.take j.2).drop j.1)) then(aA ((l.take j.2).drop j.1) n).bind λm=>(wA (some a,u,m,b,())).bind λ(I,_)=>(pp (h,())).bind λ(J,_)=>(wJ (I,J,0,())).bind λ(k,_)=>(qB (k,())).bind λ(K,_)=>bif !K then some (.inr (.inr (a,233,()))) else(bh (a.2.2.1).length b).bind λd=>(bh (a.2.1).length b).bind λr=>(a9 a.2.1 r λx=>some x).bind λP=>(bS (P.length+([k]).length)).bind λ_=>(pp (k,())).bind λ(L,_)=>(bh (a.2.1).length b).bind λi=>bif Nat.beq r i&&true then(a9 a.2.1 i λy=>some y).bind λQ=>(((a9 a.2.1 i λ_=>some ((a.2.1).set i (Q++[k]))).map λW=>(W,a.2.2)).map λX=>(a.1,X)).bind λf=>(a9 f.2.2.1 d λz=>some z).bind λv=>(pH v m ((iS (α:=di) v m).getD (false,((false,([],())),((0:Int),()))))).bind λC=>
 ((((a9 f.2.2.1 d λ_=>some ((f.2.2.1).set d C)).map λY=>(Y,f.2.2.2)).map λZ=>(f.2.1,Z)).map λab=>(f.1,ab)).bind λg=>bif Nat.beq d d&&true then(a9 g.2.2.1 d λA=>some A).bind λB=>(pH B m L).bind λD=>((((a9 g.2.2.1 d λ_=>some ((g.2.2.1).set d D)).map λad=>(ad,g.2.2.2)).map λam=>(g.2.1,am)).map λan=>(g.1,an)).bind λap=>some (.inl (aZ n,ap,())) else none else none else some (.inr (.inl (a,())))) (0,o,())).bind λF=>match F with
 |.inl (w,_)=>(some (w,0,()))
 |.inr G=>some G))
def Ab:fh->Option fh:=λ(a,_)=>mM a.length (some ([],())) ((bS (([]:aX).length+a.length)).bind λ_=>some (([]++a),()))
def wz:(Option hb×aX×Unit)->Option (it×Unit):=λ(e,h,_)=>(Ab (h,())).bind λ(i,_)=>e.bind λk=>(loop (σ:=(Int×it×it×Unit)) (ρ:=(it×it×Unit)) (λ(d,f,a,_)=>bif decide (d<ax k.1) then e.bind λl=>(aA l.1 d).bind λb=>(bS ((a.2.2.1).length+b.length)).bind λ_=>e.bind λj=>(aA j.2.1 d).bind λc=>(bS (((a.1,(a.2.1,((a.2.2.1++b),a.2.2.2))).2.2.2.1).length+c.length)).bind λ_=>(bS ((((a.1,(a.2.1,((a.2.2.1++b),a.2.2.2))).1,((a.1,(a.2.1,((a.2.2.1++b),a.2.2.2))).2.1,((a.1,(a.2.1,((a.2.2.1++b),a.2.2.2))).2.2.1,(((a.1,(a.2.1,((a.2.2.1++b),a.2.2.2))).2.2.2.1++c),(a.1,(a.2.1,((a.2.2.1++b),a.2.2.2))).2.2.2.2)))).2.1).length+([ax (((a.1,(a.2.1,((a.2.2.1++b),a.2.2.2))).1,((a.1,(a.2.1,((a.2.2.1++b),a.2.2.2))).2.1,((a.1,(a.2.1,((a.2.2.1++b),a.2.2.2))).2.2.1,(((a.1,(a.2.1,((a.2.2.1++b),a.2.2.2))).2.2.2.1++c),(a.1,(a.2.1,((a.2.2.1++b),a.2.2.2))).2.2.2.2)))).2.2.1)]).length)).bind λ_=>
 some (.inl (aZ d,f,(((a.1,(a.2.1,((a.2.2.1++b),a.2.2.2))).1,((a.1,(a.2.1,((a.2.2.1++b),a.2.2.2))).2.1,((a.1,(a.2.1,((a.2.2.1++b),a.2.2.2))).2.2.1,(((a.1,(a.2.1,((a.2.2.1++b),a.2.2.2))).2.2.2.1++c),(a.1,(a.2.1,((a.2.2.1++b),a.2.2.2))).2.2.2.2)))).1,((((a.1,(a.2.1,((a.2.2.1++b),a.2.2.2))).1,((a.1,(a.2.1,((a.2.2.1++b),a.2.2.2))).2.1,((a.1,(a.2.1,((a.2.2.1++b),a.2.2.2))).2.2.1,(((a.1,(a.2.1,((a.2.2.1++b),a.2.2.2))).2.2.2.1++c),(a.1,(a.2.1,((a.2.2.1++b),a.2.2.2))).2.2.2.2)))).2.1++[ax (((a.1,(a.2.1,((a.2.2.1++b),a.2.2.2))).1,((a.1,(a.2.1,((a.2.2.1++b),a.2.2.2))).2.1,((a.1,(a.2.1,((a.2.2.1++b),a.2.2.2))).2.2.1,(((a.1,(a.2.1,((a.2.2.1++b),a.2.2.2))).2.2.2.1++c),(a.1,(a.2.1,((a.2.2.1++b),a.2.2.2))).2.2.2.2)))).2.2.1)]),((a.1,(a.2.1,((a.2.2.1++b),a.2.2.2))).1,((a.1,(a.2.1,((a.2.2.1++b),a.2.2.2))).2.1,((a.1,(a.2.1,((a.2.2.1++b),a.2.2.2))).2.2.1,(((a.1,(a.2.1,((a.2.2.1++b),a.2.2.2))).2.2.2.1++c),(a.1,(a.2.1,((a.2.2.1++b),a.2.2.2))).2.2.2.2)))).2.2)),())) else
 some (.inr (f,a,()))) (0,([],([],([],([],())))),(i,([0],(([]:aX),(([]:aX),())))),())).bind λ(_,g,_)=>some (g,())
def pn:(bP×aX×Unit)->Option r7:=λ(g,e,_)=>(qK (g,e,())).bind λ(b,aU,_)=>(bif aU !=0 then some ((([]:aX),(([]:aX),(([]:aX),(([]:aX),())))),0,aU,()) else((wy (b,())).bind λ(m,_)=>b.bind λo=>(loop (σ:=(Int×it×hb×Unit)) (ρ:=((it×hb×Unit)⊕r7)) (λ(c,f,d,_)=>bif decide (c<o.1) then(zn (d,b,c,())).bind λ(i,a,_)=>bif a==0 then some (.inl (aZ c,f,i,())) else bif a==231 then some (.inr (.inr ((([]:aX),(([]:aX),(([]:aX),(([]:aX),())))),c,a,()))) else some (.inr (.inr ((([]:aX),(([]:aX),(([]:aX),(([]:aX),())))),0,a,()))) else some (.inr (.inl (f,d,())))) (0,([],([],([],([],())))),m,())).bind λj=>match j with
 |.inl (_,h,_)=>((wz (some h,e,())).bind λ(l,_)=>b.bind λn=>some (l,n.1,0,()))
 |.inr k=>some k))
def Ap:k7->Option e3:=λ(b,c,_)=>(bif ax b !=ax c then some (false,()) else((loop (σ:=bt) (ρ:=nY) (λ(a,_)=>bif decide (a<ax b) then(aA b a).bind λf=>(aA c a).bind λg=>bif f !=g then some (.inr (.inr (false,()))) else some (.inl (aZ a,())) else some (.inr (.inl ()))) (0,())).bind λd=>match d with
 |.inl _=>(some (true,()))
 |.inr e=>some e))
def Ar:Unit->Option e3:=λ_=>(sy (4,0,())).bind λ(b,_)=>(sy (2,0,())).bind λ(a,_)=>(sy (5,0,())).bind λ(c,_)=>(pn ((2,(2,([0,2,3],([0,1,1],([b,a,c],()))))),[0,1],())).bind λ(aU,d,e,_)=>(bif (e==0)==true then bif (d==2)==true then(sw (aU.2.1,[0,2,3],())).bind λ(f,_)=>bif f==true then(Ap (aU.2.2.2.1,[a,4607182418800017408,a],())).bind λ(g,_)=>some (g,()) else some (false,()) else some (false,()) else some (false,()))
def qF:mu->Option bt:=λ(a,b,_)=>(gV (aR a) (aR b)).bind λc=>some (aw c,())
def sv:lN->Option bt:=λ(b,a,_)=>Option.bind (α:=bt) (bif decide (ax b>0) then(qF (a,ax b,())).bind λ(e,_)=>(aA b e).bind λf=>some (rH IntKind.u64 (aR (aR (aZ a)*11400714819323198485)) f,()) else some (aR (aR (aZ a)*11400714819323198485),())) λ(c,_)=>(dm IntKind.u64 c 31).bind λd=>(dm IntKind.u64 (aR (rH IntKind.u64 c d*13787848793156543929)) 29).bind λg=>some (rH IntKind.u64 (aR (rH IntKind.u64 c d*13787848793156543929)) g,())
def DH:bt->Option bt:=λ(b,_)=>(gV b 19).bind λc=>(sy (aw (aw c-9),0,())).bind λ(a,_)=>some (a,())
def Am:mu->Option bt:=λ(a,e,_)=>(qF (e,4,())).bind λ(b,_)=>(bif b==1 then(dm IntKind.u64 a 52).bind λf=>(gW IntKind.u64 (aR (1019+dq IntKind.u64 f 7)) 52).bind λg=>some (eP IntKind.u64 (dq IntKind.u64 a 9227875636482146303) g,()) else bif b==2 then(dm IntKind.u64 a 8).bind λh=>(gV h 81).bind λi=>(gW IntKind.u64 (aR (983+i)) 52).bind λj=>some (eP IntKind.u64 (dq IntKind.u64 a 9225623836668461056) j,()) else bif b==3 then(uL (a,())).bind λ(d,_)=>bif !d then some (0,()) else some (a,()) else(DH (a,())).bind λ(c,_)=>some (c,()))
def w1:(aX×Int×Int×Int×Unit)->Option k8:=λ(n,e,g,q,_)=>(loop (σ:=(Int×bP×bP×Unit)) (ρ:=(bP×bP×Unit)) (λ(d,k,h,_)=>bif decide (d<g) then(loop (σ:=(Int×bP×bP×Unit)) (ρ:=(bP×bP×Unit)) (λ(b,f,a,_)=>bif decide (b<e) then Option.bind (α:=(bP×bP×Unit)) ((sv (n,aw (aw (100+aw (d*e))+b),())).bind λ(i,_)=>(dm IntKind.u64 i 40).bind λr=>(gV r 3).bind λs=>bif decide (s>0) then(bS ((a.2.2.2.1).length+([b]).length)).bind λ_=>(Am (i,q,())).bind λ(j,_)=>(bS (((a.1,(a.2.1,(a.2.2.1,((a.2.2.2.1++[b]),a.2.2.2.2)))).2.2.2.2.1).length+([j]).length)).bind λ_=>some (f,((a.1,(a.2.1,(a.2.2.1,((a.2.2.2.1++[b]),a.2.2.2.2)))).1,((a.1,(a.2.1,(a.2.2.1,((a.2.2.2.1++[b]),a.2.2.2.2)))).2.1,((a.1,(a.2.1,(a.2.2.1,((a.2.2.2.1++[b]),a.2.2.2.2)))).2.2.1,((a.1,(a.2.1,(a.2.2.1,((a.2.2.2.1++[b]),a.2.2.2.2)))).2.2.2.1,(((a.1,(a.2.1,(a.2.2.1,((a.2.2.2.1++[b]),a.2.2.2.2)))).2.2.2.2.1++[j]),(a.1,(a.2.1,(a.2.2.1,((a.2.2.2.1++[b]),a.2.2.2.2)))).2.2.2.2.2))))),()) else
 some (f,a,())) λ(o,l,_)=>some (.inl (aZ b,o,l,())) else some (.inr (f,a,()))) (0,k,h,())).bind λ(p,c,_)=>(bS ((c.2.2.1).length+([ax c.2.2.2.1]).length)).bind λ_=>some (.inl (aZ d,p,(c.1,(c.2.1,((c.2.2.1++[ax c.2.2.2.1]),c.2.2.2))),())) else some (.inr (k,h,()))) (0,((0:Int),((0:Int),([],([],([],()))))),(e,(g,([0],(([]:aX),(([]:aX),()))))),())).bind λ(_,m,_)=>some (m,())
def AG:fh->Option e3:=λ(b,_)=>(loop (σ:=bt) (ρ:=nY) (λ(a,_)=>bif decide (a<ax b) then(aA b a).bind λe=>(uL (e,())).bind λ(aU,_)=>bif !aU then some (.inr (.inr (false,()))) else some (.inl (aZ a,())) else some (.inr (.inl ()))) (0,())).bind λc=>match c with
 |.inl _=>(some (true,()))
 |.inr d=>some d
def qI:k8->Option bt:=λ(a,_)=>Option.bind (α:=Unit⊕bt) (bif decide (a.1<0)==false then bif decide (a.1>200)==false then bif decide (a.2.1<0)==false then bif decide (a.2.1>200)==false then bif decide (ax a.2.2.2.1>10000) then some (.inr (6,())) else some (.inl ()) else some (.inr (6,())) else some (.inr (6,())) else some (.inr (6,())) else some (.inr (6,()))) λb=>match b with
 |.inl _=>(Option.bind (α:=Unit⊕bt) (bif (ax a.2.2.2.2.1 !=ax a.2.2.2.1)==false then bif (ax a.2.2.1 !=aZ a.2.1)==false then(aA a.2.2.1 0).bind λn=>bif (n !=0)==false then(aA a.2.2.1 a.2.1).bind λo=>bif o !=ax a.2.2.2.1 then some (.inr (1,())) else some (.inl ()) else some (.inr (1,())) else some (.inr (1,())) else some (.inr (1,()))) λb=>match b with
 |.inl _=>((loop (σ:=bt) (ρ:=lM) (λ(f,_)=>bif decide (f<a.2.1) then(aA a.2.2.1 f).bind λp=>(aA a.2.2.1 (aZ f)).bind λq=>bif decide (p>q) then some (.inr (.inr (1,()))) else some (.inl (aZ f,())) else some (.inr (.inl ()))) (0,())).bind λb=>match b with
 |.inl _=>((loop (σ:=bt) (ρ:=lM) (λ(e,_)=>bif decide (e<a.2.1) then((aA a.2.2.1 e).bind λr=>(loop (σ:=bt) (ρ:=(Unit⊕(bt⊕lM))) (λ(d,_)=>(aA a.2.2.1 (aZ e)).bind λh=>bif decide (d<h) then(Option.bind (α:=Unit⊕(bt⊕(Unit⊕(bt⊕lM)))) ((aA a.2.2.2.1 d).bind λi=>bif decide (i<0)==false then(aA a.2.2.2.1 d).bind λj=>bif decide (j>=a.1)==false then(aA a.2.2.1 e).bind λk=>bif decide (d>k)==true then(aA a.2.2.2.1 d).bind λl=>(aA a.2.2.2.1 (aw (d-1))).bind λm=>bif decide (l<=m) then some (.inr (.inr (.inr (.inr (.inr (1,())))))) else some (.inl ()) else some (.inl ()) else some (.inr (.inr (.inr (.inr (.inr (1,())))))) else some (.inr (.inr (.inr (.inr (.inr (1,()))))))) λb=>match b with
 |.inl _=>(some (.inl (aZ d,())))
 |.inr c=>some c) else some (.inr (.inl ()))) (r,())).bind λb=>match b with
 |.inl _=>(some (.inl (aZ e,())))
 |.inr c=>some c) else some (.inr (.inl ()))) (0,())).bind λb=>match b with
 |.inl _=>((AG (a.2.2.2.2.1,())).bind λ(g,_)=>bif !g then some (4,()) else some (0,()))
 |.inr c=>some c)
 |.inr c=>some c)
 |.inr c=>some c)
 |.inr c=>some c
def sz:(bP×Int×Int×Unit)->Option bt:=λ(a,f,b,_)=>Option.bind (α:=Unit⊕bt) ((qI (a,())).bind λ(aU,_)=>bif (aU !=0)==false then bif decide (b<0)==false then bif decide (b>=a.2.1) then some (.inr (0,())) else some (.inl ()) else some (.inr (0,())) else some (.inr (0,()))) λd=>match d with
 |.inl _=>((aA a.2.2.1 b).bind λg=>(loop (σ:=bt) (ρ:=lM) (λ(c,_)=>(aA a.2.2.1 (aZ b)).bind λh=>bif decide (c<h) then(aA a.2.2.2.1 c).bind λi=>bif i==f then(aA a.2.2.2.2.1 c).bind λj=>some (.inr (.inr (j,()))) else some (.inl (aZ c,())) else some (.inr (.inl ()))) (g,())).bind λd=>match d with
 |.inl _=>(some (0,()))
 |.inr e=>some e)
 |.inr e=>some e
def xc:(bP×Int×Int×Unit)->Option e3:=λ(a,c,b,_)=>Option.bind (α:=Unit⊕e3) (bif decide (c<0)==false then bif decide (c>=a.1)==false then bif decide (b<0)==false then bif decide (b>=a.2.1) then some (.inr (false,())) else some (.inl ()) else some (.inr (false,())) else some (.inr (false,())) else some (.inr (false,()))) λe=>match e with
 |.inl _=>((aA a.2.2.1 b).bind λg=>(loop (σ:=bt) (ρ:=nY) (λ(d,_)=>(aA a.2.2.1 (aZ b)).bind λh=>bif decide (d<h) then(aA a.2.2.2.1 d).bind λi=>bif i==c then some (.inr (.inr (true,()))) else some (.inl (aZ d,())) else some (.inr (.inl ()))) (g,())).bind λe=>match e with
 |.inl _=>(some (false,()))
 |.inr f=>some f)
 |.inr f=>some f
def Al:(aX×Int×Int×Unit)->Option k8:=λ(G,f,N,_)=>(qF (N,3,())).bind λ(aU,_)=>(w1 (G,f,f,aU,())).bind λ(F,_)=>(loop (σ:=(Int×bP×bP×bP×Unit)) (ρ:=(bP×bP×Unit)) (λ(h,r,w,n,_)=>bif decide (h<f) then(loop (σ:=(Int×bP×bP×bP×Unit)) (ρ:=(bP×bP×bP×Unit)) (λ(c,j,g,a,_)=>bif decide (c<f) then Option.bind (α:=(bP×bP×bP×Unit)) (bif c==h then(w8 (1,())).bind λ(A,_)=>(loop (σ:=(Int×bP×bP×bP×ha×Unit)) (ρ:=(bP×bP×bP×ha×Unit)) (λ(d,m,i,l,k,_)=>bif decide (d<f) then Option.bind (α:=(bP×bP×bP×ha×Unit)) (bif d !=c then(sz (i,(if d>c then d else c),(if d<c then d else c),())).bind λ(B,_)=>(AE (B,())).bind λ(C,_)=>(Az (C,())).bind λ(o,_)=>(bS (k.length+([o]).length)).bind λ_=>some (m,i,l,(k++[o]),()) else some (m,i,l,k,())) λ(H,s,x,I,_)=>
 some (.inl (aZ d,H,s,x,I,())) else some (.inr (m,i,l,k,()))) (0,j,g,a,[A],())).bind λ(J,t,b,K,_)=>(bS ((b.2.2.2.1).length+([c]).length)).bind λ_=>(AB (K,())).bind λ(D,_)=>(w9 (D,2,())).bind λ(p,_)=>(bS (((b.1,(b.2.1,(b.2.2.1,((b.2.2.2.1++[c]),b.2.2.2.2)))).2.2.2.2.1).length+([p]).length)).bind λ_=>some (J,t,((b.1,(b.2.1,(b.2.2.1,((b.2.2.2.1++[c]),b.2.2.2.2)))).1,((b.1,(b.2.1,(b.2.2.1,((b.2.2.2.1++[c]),b.2.2.2.2)))).2.1,((b.1,(b.2.1,(b.2.2.1,((b.2.2.2.1++[c]),b.2.2.2.2)))).2.2.1,((b.1,(b.2.1,(b.2.2.1,((b.2.2.2.1++[c]),b.2.2.2.2)))).2.2.2.1,(((b.1,(b.2.1,(b.2.2.1,((b.2.2.2.1++[c]),b.2.2.2.2)))).2.2.2.2.1++[p]),(b.1,(b.2.1,(b.2.2.1,((b.2.2.2.1++[c]),b.2.2.2.2)))).2.2.2.2.2))))),()) else(xc (g,c,h,())).bind λ(E,_)=>bif E then(bS ((a.2.2.2.1).length+([c]).length)).bind λ_=>(sz (g,c,h,())).bind λ(q,_)=>
 (bS (((a.1,(a.2.1,(a.2.2.1,((a.2.2.2.1++[c]),a.2.2.2.2)))).2.2.2.2.1).length+([q]).length)).bind λ_=>some (j,g,((a.1,(a.2.1,(a.2.2.1,((a.2.2.2.1++[c]),a.2.2.2.2)))).1,((a.1,(a.2.1,(a.2.2.1,((a.2.2.2.1++[c]),a.2.2.2.2)))).2.1,((a.1,(a.2.1,(a.2.2.1,((a.2.2.2.1++[c]),a.2.2.2.2)))).2.2.1,((a.1,(a.2.1,(a.2.2.1,((a.2.2.2.1++[c]),a.2.2.2.2)))).2.2.2.1,(((a.1,(a.2.1,(a.2.2.1,((a.2.2.2.1++[c]),a.2.2.2.2)))).2.2.2.2.1++[q]),(a.1,(a.2.1,(a.2.2.1,((a.2.2.2.1++[c]),a.2.2.2.2)))).2.2.2.2.2))))),()) else some (j,g,a,())) λ(L,u,y,_)=>some (.inl (aZ c,L,u,y,())) else some (.inr (j,g,a,()))) (0,r,w,n,())).bind λ(M,v,e,_)=>(bS ((e.2.2.1).length+([ax e.2.2.2.1]).length)).bind λ_=>some (.inl (aZ h,M,v,(e.1,(e.2.1,((e.2.2.1++[ax e.2.2.2.1]),e.2.2.2))),())) else some (.inr (r,n,()))) (0,((0:Int),((0:Int),([],([],([],()))))),F,(f,(f,([0],(([]:aX),(([]:aX),()))))),())).bind λ(_,z,_)=>
 some (z,())
def w2:lN->Option fh:=λ(m,j,_)=>(loop (σ:=lN) (ρ:=fh) (λ(a,c,_)=>bif decide (c<j) then(sv (m,aw (700+c),())).bind λ(l,_)=>(dm IntKind.u64 l 1).bind λn=>(qF (aw n,aZ c,())).bind λ(i,_)=>((some (0)).bind λg=>(fU i).bind λh=>(gj g h a.length).map λ_=>(g,h)).bind λb=>(bS (([]:aX).length+((a.take b.2).drop b.1).length)).bind λ_=>(bS (([]++((a.take b.2).drop b.1)).length+([c]).length)).bind λ_=>((fU i).bind λe=>(some a.length).bind λf=>(gj e f a.length).map λ_=>(e,f)).bind λd=>(bS ((([]++((a.take b.2).drop b.1))++[c]).length+((a.take d.2).drop d.1).length)).bind λ_=>some (.inl (((([]++((a.take b.2).drop b.1))++[c])++((a.take d.2).drop d.1)),aZ c,())) else some (.inr (a,()))) ([],0,())).bind λ(k,_)=>some (k,())
def As:(aX×Int×Int×Bool×Unit)->Option (bP×aX×Unit):=λ(b,e,c,d,_)=>(qF (e,6,())).bind λ(a,_)=>(bif d then(Al (b,a,c,())).bind λ(f,_)=>(w2 (b,a,())).bind λ(g,_)=>some (f,g,()) else(w1 (b,a,a,c,())).bind λ(h,_)=>(w2 (b,a,())).bind λ(i,_)=>some (h,i,()))
def xb:k8->Option ja:=λ(b,_)=>(qI (b,())).bind λ(j,_)=>(bif j !=0 then some ([],()) else(loop (σ:=pe) (ρ:=ja) (λ(a,e,_)=>bif decide (a<b.2.1) then(aA b.2.2.1 a).bind λk=>(loop (σ:=pe) (ρ:=ja) (λ(c,d,_)=>(aA b.2.2.1 (aZ a)).bind λl=>bif decide (c<l) then(aA b.2.2.2.1 c).bind λf=>(aA b.2.2.2.2.1 c).bind λg=>(bS (d.length+([(f,(a,(g,())))]).length)).bind λ_=>some (.inl (aZ c,(d++[(f,(a,(g,())))]),())) else some (.inr (d,()))) (k,e,())).bind λ(h,_)=>some (.inl (aZ a,h,())) else some (.inr (e,()))) (0,[],())).bind λ(i,_)=>some (i,()))
def AH:CW->Option k8:=λ(d,g,h,_)=>(eo (aw (d*g)) (aw (d*g))).bind λy=>(loop (σ:=(Int×bP×bP×aX×Unit)) (ρ:=(bP×bP×aX×Unit)) (λ(e,o,m,k,_)=>bif decide (e<ax h) then(aA h e).bind λD=>(aA h e).bind λC=>wr k (aw (aw (D.2.1*d)+C.1)) (aZ e) λE=>some (.inl (aZ e,o,m,E,())) else some (.inr (o,m,k,()))) (0,((0:Int),((0:Int),([],([],([],()))))),(d,(g,([0],(([]:aX),(([]:aX),()))))),List.replicate y (0:Int),())).bind λ(z,v,r,_)=>(loop (σ:=(Int×bP×bP×aX×Unit)) (ρ:=(bP×bP×Unit)) (λ(i,n,l,s,_)=>bif decide (i<g) then(loop (σ:=(Int×bP×bP×aX×Unit)) (ρ:=(bP×bP×aX×Unit)) (λ(b,j,a,f,_)=>bif decide (b<d) then Option.bind (α:=(bP×bP×aX×Unit)) (rd f (aw (aw (i*d)+b)) λp=>bif decide (p>0) then(bS ((a.2.2.2.1).length+([b]).length)).bind λ_=>(aA h (aw (p-1))).bind λq=>
 (bS (((a.1,(a.2.1,(a.2.2.1,((a.2.2.2.1++[b]),a.2.2.2.2)))).2.2.2.2.1).length+([q.2.2.1]).length)).bind λ_=>some (j,((a.1,(a.2.1,(a.2.2.1,((a.2.2.2.1++[b]),a.2.2.2.2)))).1,((a.1,(a.2.1,(a.2.2.1,((a.2.2.2.1++[b]),a.2.2.2.2)))).2.1,((a.1,(a.2.1,(a.2.2.1,((a.2.2.2.1++[b]),a.2.2.2.2)))).2.2.1,((a.1,(a.2.1,(a.2.2.1,((a.2.2.2.1++[b]),a.2.2.2.2)))).2.2.2.1,(((a.1,(a.2.1,(a.2.2.1,((a.2.2.2.1++[b]),a.2.2.2.2)))).2.2.2.2.1++[q.2.2.1]),(a.1,(a.2.1,(a.2.2.1,((a.2.2.2.1++[b]),a.2.2.2.2)))).2.2.2.2.2))))),f,()) else some (j,a,f,())) λ(A,w,t,_)=>some (.inl (aZ b,A,w,t,())) else some (.inr (j,a,f,()))) (0,n,l,s,())).bind λ(B,c,u,_)=>(bS ((c.2.2.1).length+([ax c.2.2.2.1]).length)).bind λ_=>some (.inl (aZ i,B,(c.1,(c.2.1,((c.2.2.1++[ax c.2.2.2.1]),c.2.2.2))),u,())) else some (.inr (n,l,()))) (0,z,v,r,())).bind λ(_,x,_)=>
 some (x,())
def sA:k8->Option (bP×Int×Unit):=λ(b,_)=>(qI (b,())).bind λ(aU,_)=>(bif aU !=0 then some (((0:Int),((0:Int),(([]:aX),(([]:aX),(([]:aX),()))))),aU,()) else(xb (b,())).bind λ(d,_)=>(loop (σ:=(Int×bP×jS×Unit)) (ρ:=(bP×jS×Unit)) (λ(a,e,c,_)=>bif decide (a<ax d) then Option.bind (α:=(bP×jS×Unit)) ((aA d a).bind λl=>(aA d a).bind λk=>bif decide (l.1>=k.2.1) then(aA d a).bind λf=>(bS (c.length+([f]).length)).bind λ_=>some (e,(c++[f]),()) else some (e,c,())) λ(j,g,_)=>some (.inl (aZ a,j,g,())) else some (.inr (e,c,()))) (0,((0:Int),((0:Int),([],([],([],()))))),[],())).bind λ(_,h,_)=>(AH (b.1,b.2.1,h,())).bind λ(i,_)=>some (i,0,()))
def sB:k8->Option ((List aX×Unit)×Int×Unit):=λ(a,_)=>(qI (a,())).bind λ(g,_)=>(bif g !=0 then some ((([]:List aX),()),g,()) else bif a.1 !=a.2.1 then some ((([]:List aX),()),5,()) else(xf (a.1,())).bind λ(l,_)=>(xb (a,())).bind λ(aU,_)=>(loop (σ:=(Int×(List aX×Unit)×List gy×Unit)) (ρ:=((List aX×Unit)×List gy×Unit)) (λ(c,h,b,_)=>bif decide (c<ax aU) then(aA aU c).bind λo=>(bh b.length o.1).bind λd=>(aA aU c).bind λn=>((a9 b d λi=>some i).bind λj=>bh j.length n.2.1).bind λf=>(a9 b d λe=>(a9 e f λ_=>some (e.set f true)).map λp=>b.set d p).bind λq=>some (.inl (aZ c,h,q,())) else some (.inr (h,b,()))) (0,([],()),l,())).bind λ(_,m,_)=>(xd (m,())).bind λ(k,_)=>some (k,0,()))
def An:(it×it×Unit)->Option e3:=λ(a,b,_)=>(sw (a.1,b.1,())).bind λ(c,_)=>(bif c==true then(sw (a.2.1,b.2.1,())).bind λ(aU,_)=>bif aU==true then(sw (a.2.2.1,b.2.2.1,())).bind λ(d,_)=>bif d==true then(Ap (a.2.2.2.1,b.2.2.2.1,())).bind λ(e,_)=>some (e,()) else some (false,()) else some (false,()) else some (false,()))
def wZ:(bP×aX×aX×Unit)->Option (gN×Unit):=λ(O,d9,em,_)=>(sA (O,())).bind λ(aU,_,_)=>(sB (aU,())).bind λ(ek,_,_)=>(qJ (ek,d9,())).bind λ(el,_,_)=>(xi (el,())).bind λ(h,_,_)=>(loop (σ:=(Int×gN×List gy×Unit)) (ρ:=iL) (λ(b,y,s,_)=>bif decide (b<ax h) then Option.bind (α:=iL) (Option.bind (α:=iL) (Option.bind (α:=(Bool×gN×List gy×Unit)) (bif (b==0)==false then(sv (em,aw (900+b),())).bind λ(ed,_)=>(dm IntKind.u64 ed 7).bind λfT=>(gV fT 3).bind λf0=>some (decide (f0>0),y,s,()) else some (true,y,s,())) λ(eq,z,t,_)=>bif eq then(bS (z.length+([(b,(aZ b,(([]:aX),((-1:Int),()))))]).length)).bind λ_=>(eo (ax h) (ax h)).bind λN=>(bS (t.length+([List.replicate N false]).length)).bind λ_=>some ((z++[(b,(aZ b,(([]:aX),((-1:Int),()))))]),(t++[List.replicate N false]),()) else
 some (z,t,())) λ(m,bd,_)=>(bh m.length (aw (ax m-1))).bind λG=>(a9 m G λB=>some (m.set G (B.1,(aZ b,B.2.2)))).bind λgf=>(loop (σ:=(Int×gN×List gy×Unit)) (ρ:=iL) (λ(x,L,l,_)=>(aA h b).bind λf1=>bif decide (x<ax f1) then(bh l.length (aw (ax m-1))).bind λw=>(aA h b).bind λf2=>(aA f2 x).bind λf3=>((a9 l w λT=>some T).bind λU=>bh U.length f3).bind λH=>(a9 l w λC=>(a9 C H λ_=>some (C.set H true)).map λgi=>l.set w gi).bind λgl=>some (.inl (aZ x,L,gl,())) else some (.inr (L,l,()))) (0,gf,bd,())).bind λ(d5,bl,_)=>some (d5,bl,())) λ(d6,bs,_)=>some (.inl (aZ b,d6,bs,())) else some (.inr (y,s,()))) (0,[],[],())).bind λ(d7,bB,_)=>(loop (σ:=(Int×gN×List gy×Unit)) (ρ:=(gN×Unit)) (λ(a,n,ce,_)=>bif decide (a<ax n) then(bh n.length a).bind λcv=>
 (a9 n cv λV=>some V.1).bind λf4=>(loop (σ:=(Int×gN×List gy×Unit)) (ρ:=iL) (λ(c,d,f,_)=>bif decide (c<ax h) then Option.bind (α:=iL) ((bh f.length a).bind λI=>((a9 f I λW=>some W).bind λX=>bh X.length c).bind λc1=>(a9 f I λY=>a9 Y c1 λZ=>some Z).bind λf5=>bif !f5 then some (d,f,()) else(bh d.length a).bind λJ=>(a9 d J λab=>some ab.2.2.1).bind λfp=>(bS (fp.length+([c]).length)).bind λ_=>(bh d.length a).bind λp=>bif Nat.beq J p&&true then(a9 d p λad=>some ad.2.2.1).bind λfs=>(a9 d p λr=>some (d.set p (r.1,(r.2.1,((fs++[c]),r.2.2.2))))).bind λi=>Option.bind (α:=iL) (Option.bind (α:=(Bool×gN×List gy×Unit)) ((bh i.length a).bind λc2=>(a9 i c2 λam=>some am.2.1).bind λf6=>bif decide (c>=f6)==true then(bh i.length a).bind λdl=>(a9 i dl λan=>some an.2.2.2.1).bind λf7=>
 some (decide (f7<0),i,f,()) else some (false,i,f,())) λ(ex,M,D,_)=>bif ex then(loop (σ:=(Int×gN×List gy×Unit)) (ρ:=iL) (λ(j,e,u,_)=>bif decide (j<ax e) then Option.bind (α:=iL) (Option.bind (α:=(Bool×gN×List gy×Unit)) ((bh e.length j).bind λds=>(a9 e ds λap=>some ap.1).bind λf8=>bif decide (c>=f8)==true then(bh e.length j).bind λd0=>(a9 e d0 λav=>some av.2.1).bind λf9=>some (decide (c<f9),e,u,()) else some (false,e,u,())) λ(fn,q,E,_)=>bif fn then(bh q.length a).bind λK=>(a9 q K λo=>some (q.set K (o.1,(o.2.1,(o.2.2.1,(j,o.2.2.2.2)))))).bind λgo=>some (go,E,()) else some (q,E,())) λ(d8,ci,_)=>some (.inl (aZ j,d8,ci,())) else some (.inr (e,u,()))) (aZ a,M,D,())).bind λ(d1,a0,_)=>some (d1,a0,()) else some (M,D,())) λ(g,k,_)=>(bh g.length a).bind λco=>
 (a9 g co λP=>some P.2.1).bind λft=>bif decide (c>=ft) then(bh g.length a).bind λcs=>(a9 g cs λQ=>some Q.2.2.2.1).bind λfz=>(bh k.length fz).bind λv=>((a9 k v λR=>some R).bind λS=>bh S.length c).bind λF=>(a9 k v λA=>(a9 A F λ_=>some (A.set F true)).map λgc=>k.set v gc).bind λge=>some (g,ge,()) else some (g,k,()) else none) λ(d2,a3,_)=>some (.inl (aZ c,d2,a3,())) else some (.inr (d,f,()))) (f4,n,ce,())).bind λ(d3,a4,_)=>some (.inl (aZ a,d3,a4,())) else some (.inr (n,()))) (0,d7,bB,())).bind λ(d4,_)=>some (d4,())
def uF:lN->Option bt:=λ(b,e,_)=>(loop (σ:=bt) (ρ:=lM) (λ(a,_)=>bif decide (a<ax b) then(aA b a).bind λf=>bif e==f then some (.inr (.inr (a,()))) else some (.inl (aZ a,())) else some (.inr (.inl ()))) (0,())).bind λc=>match c with
 |.inl _=>(some ((-1:Int),()))
 |.inr d=>some d
def zy:cQ->Option bt:=λ(b,a,c,_)=>Option.bind (α:=e3) (bif decide (b<0)==false then some (decide (a<0),()) else some (true,())) λ(d,_)=>(bif d then some (5,()) else Option.bind (α:=e3) (bif decide (b>64)==false then some (decide (a>64),()) else some (true,())) λ(e,_)=>bif e then some (6,()) else bif c !=aw (b*a) then some (2,()) else some (0,()))
def uq:(e5×Unit)->Option bt:=λ(a,_)=>(zy (a.1,a.2.1,ax a.2.2.1,())).bind λ(c,_)=>(bif c !=0 then some (c,()) else((loop (σ:=bt) (ρ:=lM) (λ(b,_)=>bif decide (b<ax a.2.2.1) then(aA a.2.2.1 b).bind λg=>(sn (g,())).bind λ(f,_)=>bif !f then some (.inr (.inr (4,()))) else some (.inl (aZ b,())) else some (.inr (.inl ()))) (0,())).bind λd=>match d with
 |.inl _=>(some (0,()))
 |.inr e=>some e))
def zx:lN->Option e3:=λ(b,f,_)=>(loop (σ:=bt) (ρ:=nY) (λ(a,_)=>bif decide (a<ax b) then(Option.bind (α:=Unit⊕(bt⊕nY)) ((aA b a).bind λe=>bif decide (e<0)==false then bif decide (e>=f)==false then bif decide (a>0)==true then(aA b (aw (a-1))).bind λg=>bif decide (g>=e) then some (.inr (.inr (.inr (false,())))) else some (.inl ()) else some (.inl ()) else some (.inr (.inr (.inr (false,())))) else some (.inr (.inr (.inr (false,()))))) λc=>match c with
 |.inl _=>(some (.inl (aZ a,())))
 |.inr d=>some d) else some (.inr (.inl ()))) (0,())).bind λc=>match c with
 |.inl _=>(some (true,()))
 |.inr d=>some d
def zt:(e5×aX×e5×Unit)->Option pf:=λ(a,d,e,_)=>(uq (a,())).bind λ(p,_)=>(bif p !=0 then some (((0:Int),((0:Int),(([]:ha),()))),p,()) else(uq (e,())).bind λ(q,_)=>bif q !=0 then some (((0:Int),((0:Int),(([]:ha),()))),q,()) else(Option.bind (α:=(e5×Unit)⊕pf) (Option.bind (α:=(Bool×e5×Unit)) (bif (a.1 !=a.2.1)==false then bif (e.1 !=e.2.1)==false then some ((ax d !=e.1),((0:Int),((0:Int),([],()))),()) else some (true,((0:Int),((0:Int),([],()))),()) else some (true,((0:Int),((0:Int),([],()))),())) λ(D,E,_)=>bif D then some (.inr (((0:Int),((0:Int),(([]:ha),()))),5,())) else some (.inl (E,()))) λf=>match f with
 |.inl (F,_)=>((zx (d,a.1,())).bind λ(z,_)=>bif !z then some (((0:Int),((0:Int),(([]:ha),()))),232,()) else((eo (ax a.2.2.1) (ax a.2.2.1)).bind λv=>(loop (σ:=nZ) (ρ:=nb) (λ(h,r,c,_)=>bif decide (h<ax a.2.2.1) then(aA a.2.2.1 h).bind λI=>(qA (I,())).bind λ(A,_)=>(bh (c.2.2.1).length h).bind λm=>((((a9 c.2.2.1 m λ_=>some ((c.2.2.1).set m A)).map λM=>(M,c.2.2.2)).map λN=>(c.2.1,N)).map λO=>(c.1,O)).bind λP=>some (.inl (aZ h,r,P,())) else some (.inr (r,c,()))) (0,F,(a.1,(a.2.1,(List.replicate v (false,((false,([],())),((0:Int),()))),()))),())).bind λ(G,w,_)=>(loop (σ:=nZ) (ρ:=(nb⊕pf)) (λ(i,s,o,_)=>bif decide (i<ax d) then((loop (σ:=nZ) (ρ:=(nb⊕(nZ⊕(nb⊕pf)))) (λ(j,t,b,_)=>bif decide (j<ax d) then(aA d i).bind λk=>(aA d j).bind λl=>
 rd b.2.2.1 (aw (aw (k*a.1)+l)) λJ=>(aA e.2.2.1 (aw (aw (i*e.1)+j))).bind λK=>(zz (J,K,())).bind λ(B,_)=>(bh (b.2.2.1).length (aw (aw (k*a.1)+l))).bind λn=>((((a9 b.2.2.1 n λ_=>some ((b.2.2.1).set n B)).map λQ=>(Q,b.2.2.2)).map λR=>(b.2.1,R)).map λS=>(b.1,S)).bind λu=>rd u.2.2.1 (aw (aw (k*a.1)+l)) λL=>(sn (L,())).bind λ(C,_)=>bif !C then some (.inr (.inr (.inr (.inr (((0:Int),((0:Int),(([]:ha),()))),233,()))))) else some (.inl (aZ j,t,u,())) else some (.inr (.inl (t,b,())))) (0,s,o,())).bind λf=>match f with
 |.inl (H,x,_)=>(some (.inl (aZ i,H,x,())))
 |.inr g=>some g) else some (.inr (.inl (s,o,())))) (0,G,w,())).bind λf=>match f with
 |.inl (_,y,_)=>(some (y,0,()))
 |.inr g=>some g))
 |.inr g=>some g))
def zK:(Option lK×(Int×(Int×(aX×bt)))×gN×List e5×Unit)->Option pf:=λ(G,a,o,L,_)=>(eo (aw (ax a.2.2.1*ax a.2.2.1)) (aw (ax a.2.2.1*ax a.2.2.1))).bind λH=>(loop (σ:=nZ) (ρ:=nb) (λ(c,w,l,_)=>bif decide (c<a.2.1) then(loop (σ:=nZ) (ρ:=nb) (λ(f,j,b,_)=>bif decide (f<ax a.2.2.1) then Option.bind (α:=nb) ((aA a.2.2.1 f).bind λz=>bif decide (z>=c) then(xj (G,z,c,())).bind λ(t,_)=>(bh (b.2.2.1).length (aw (aw (aw (c-a.1)*ax a.2.2.1)+f))).bind λp=>((((a9 b.2.2.1 p λ_=>some ((b.2.2.1).set p t)).map λS=>(S,b.2.2.2)).map λT=>(b.2.1,T)).map λU=>(b.1,U)).bind λe=>(bh (e.2.2.1).length (aw (aw (aw (f*ax a.2.2.1)+c)-a.1))).bind λq=>((((a9 e.2.2.1 q λ_=>some ((e.2.2.1).set q t)).map λV=>(V,e.2.2.2)).map λW=>(e.2.1,W)).map λX=>(e.1,X)).bind λY=>
 some (j,Y,()) else some (j,b,())) λ(M,B,_)=>some (.inl (aZ f,M,B,())) else some (.inr (j,b,()))) (0,w,l,())).bind λ(N,C,_)=>some (.inl (aZ c,N,C,())) else some (.inr (w,l,()))) (a.1,((0:Int),((0:Int),([],()))),(ax a.2.2.1,(ax a.2.2.1,(List.replicate H (false,((false,([],())),((0:Int),()))),()))),())).bind λ(O,D,_)=>(loop (σ:=nZ) (ρ:=(nb⊕pf)) (λ(h,x,m,_)=>bif decide (h<ax o) then(aA o h).bind λd=>((fU (aw (d.2.1-d.1))).bind λr=>(some ((d.2.2.1).length)).bind λs=>(gj r s (d.2.2.1).length).map λ_=>(r,s)).bind λg=>(loop (σ:=(Int×e5×e5×aX×Unit)) (ρ:=(e5×e5×aX×Unit)) (λ(k,y,n,i,_)=>bif decide (k<ax (((d.2.2.1).take g.2).drop g.1)) then(aA (((d.2.2.1).take g.2).drop g.1) k).bind λQ=>(uF (a.2.2.1,Q,())).bind λ(u,_)=>(bS (i.length+([u]).length)).bind λ_=>
 some (.inl (aZ k,y,n,(i++[u]),())) else some (.inr (y,n,i,()))) (0,x,m,[],())).bind λ(P,E,A,_)=>(aA L h).bind λR=>(zt (E,A,R,())).bind λ(K,v,_)=>bif v !=0 then some (.inr (.inr (((0:Int),((0:Int),(([]:ha),()))),v,()))) else some (.inl (aZ h,P,K,())) else some (.inr (.inl (x,m,())))) (0,O,D,())).bind λI=>match I with
 |.inl (_,F,_)=>(some (F,0,()))
 |.inr J=>some J
def ur:(Option jR×Int×Int×Int×Unit)->Option gd:=λ(a,d,e,h,_)=>a.bind λr=>a.bind λs=>(aA r.1.2.2.1 (aw (aw (e*s.1.1)+d))).bind λt=>(loop (σ:=(Int×di×ha×Unit)) (ρ:=(di×ha×Unit)) (λ(b,g,c,_)=>bif decide (b<h) then a.bind λl=>a.bind λm=>(aA l.2.2.1 (aw (aw (b*m.1.1)+d))).bind λn=>a.bind λo=>a.bind λp=>(aA o.2.2.1 (aw (aw (b*p.1.1)+e))).bind λq=>(wC (n,q,())).bind λ(i,_)=>(wD (i,())).bind λ(f,_)=>(bS (c.length+([f]).length)).bind λ_=>some (.inl (aZ b,g,(c++[f]),())) else some (.inr (g,c,()))) (0,(false,((false,([],())),((0:Int),()))),[t],())).bind λ(_,k,_)=>(wF (k,())).bind λ(j,_)=>some (j,())
def wB:(jR×Int×Int×Int×Unit)->Option (jR×Bool×Unit):=λ(a,d,e,c,_)=>(pp (c,())).bind λ(i,_)=>(bh (a.2.1.2.2.1).length (aw (aw (e*a.1.1)+d))).bind λg=>((((((a9 a.2.1.2.2.1 g λ_=>some ((a.2.1.2.2.1).set g c)).map λq=>(q,a.2.1.2.2.2)).map λr=>(a.2.1.2.1,r)).map λj=>(a.2.1.1,j)).map λk=>(k,a.2.2)).map λl=>(a.1,l)).bind λb=>(bh (b.2.2.1).length (aw (aw (e*a.1.1)+d))).bind λf=>((((a9 b.2.2.1 f λ_=>some ((b.2.2.1).set f i)).map λm=>(m,b.2.2.2)).map λn=>(b.2.1,n)).map λo=>(b.1,o)).bind λp=>(qB (c,())).bind λ(h,_)=>some (p,h,())
def zv:(jR×Int×Unit)->Option (jR×Int×Unit):=λ(b,a,_)=>(ur (some b,a,a,a,())).bind λ(e,_)=>(sn (e,())).bind λ(aU,_)=>(bif !aU then some (b,233,()) else(po (e,())).bind λ(p,_)=>bif decide (p<=0) then some (b,231,()) else(wK (e,0,())).bind λ(f,_)=>(wI (f,())).bind λ(q,_)=>bif q==0 then some (b,231,()) else(wB (b,a,a,f,())).bind λ(h,r,_)=>bif !r then some (h,233,()) else((loop (σ:=(Int×jR×Unit)) (ρ:=((jR×Unit)⊕(jR×Int×Unit))) (λ(d,c,_)=>bif decide (d<c.1.1) then(ur (some c,d,a,a,())).bind λ(l,_)=>(pp (f,())).bind λ(m,_)=>(wJ (l,m,0,())).bind λ(n,_)=>(wB (c,d,a,n,())).bind λ(g,o,_)=>bif !o then some (.inr (.inr (g,233,()))) else some (.inl (aZ d,g,())) else some (.inr (.inl (c,())))) (aZ a,h,())).bind λj=>match j with
 |.inl (i,_)=>(some (i,0,()))
 |.inr k=>some k))
def zw:(Option jR×Int×Unit)->Option pf:=λ(k,a,_)=>k.bind λb=>(eo (aw (aw (b.1.1-a)*aw (b.1.1-a))) (aw (aw (b.1.1-a)*aw (b.1.1-a)))).bind λr=>(loop (σ:=nZ) (ρ:=(nb⊕pf)) (λ(d,n,j,_)=>bif decide (d<aw (b.1.1-a)) then((loop (σ:=nZ) (ρ:=(nb⊕(nZ⊕(nb⊕pf)))) (λ(f,o,c,_)=>bif decide (f<aw (b.1.1-a)) then(ur (k,aw (a+f),aw (a+d),a,())).bind λ(i,_)=>(sn (i,())).bind λ(s,_)=>bif !s then some (.inr (.inr (.inr (.inr (((0:Int),((0:Int),(([]:ha),()))),233,()))))) else(bh (c.2.2.1).length (aw (aw (d*aw (b.1.1-a))+f))).bind λl=>((((a9 c.2.2.1 l λ_=>some ((c.2.2.1).set l i)).map λv=>(v,c.2.2.2)).map λw=>(c.2.1,w)).map λx=>(c.1,x)).bind λe=>(qA (i,())).bind λ(t,_)=>(bh (e.2.2.1).length (aw (aw (f*aw (b.1.1-a))+d))).bind λm=>((((a9 e.2.2.1 m λ_=>some ((e.2.2.1).set m t)).map λy=>(y,e.2.2.2)).map λz=>(e.2.1,z)).map λA=>(e.1,A)).bind λB=>
 some (.inl (aZ f,o,B,())) else some (.inr (.inl (o,c,())))) (d,n,j,())).bind λg=>match g with
 |.inl (u,p,_)=>(some (.inl (aZ d,u,p,())))
 |.inr h=>some h) else some (.inr (.inl (n,j,())))) (0,((0:Int),((0:Int),([],()))),(aw (b.1.1-a),(aw (b.1.1-a),(List.replicate r (false,((false,([],())),((0:Int),()))),()))),())).bind λg=>match g with
 |.inl (_,q,_)=>(some (q,0,()))
 |.inr h=>some h
def zu:(e5×Int×Int×Unit)->Option (k9×e5×Int×Int×Unit):=λ(b,a,e,_)=>(uq (b,())).bind λ(k,_)=>Option.bind (α:=(Int×e5×k9×e5×Unit)) (bif k !=0 then some (k,b,((0:Int),((0:Int),([],()))),((0:Int),((0:Int),([],()))),()) else Option.bind (α:=(Bool×e5×k9×e5×Unit)) (bif (b.1 !=b.2.1)==false then bif decide (a<0)==false then some (decide (a>b.1),b,((0:Int),((0:Int),([],()))),((0:Int),((0:Int),([],()))),()) else some (true,b,((0:Int),((0:Int),([],()))),((0:Int),((0:Int),([],()))),()) else some (true,b,((0:Int),((0:Int),([],()))),((0:Int),((0:Int),([],()))),())) λ(B,h,l,m,_)=>bif B then some (5,h,l,m,()) else bif decide (e<1) then some (230,h,l,m,()) else some (k,h,l,m,())) λ(n,d,C,D,_)=>(bif n !=0 then some (((0:Int),((0:Int),(([]:aX),()))),((0:Int),((0:Int),(([]:ha),()))),0,n,()) else(
 (eo (aw (d.1*a)) (aw (d.1*a))).bind λy=>(eo (aw (d.1*a)) (aw (d.1*a))).bind λz=>(loop (σ:=(Int×k9×e5×jR×Unit)) (ρ:=((k9×e5×jR×Unit)⊕(k9×e5×Int×Int×Unit))) (λ(c,s,t,o,_)=>bif decide (c<a) then((loop (σ:=(Int×k9×e5×jR×Unit)) (ρ:=((k9×e5×jR×Unit)⊕((Int×k9×e5×jR×Unit)⊕((k9×e5×jR×Unit)⊕(k9×e5×Int×Int×Unit))))) (λ(f,u,v,p,_)=>bif decide (f<aw (c+(if(aw (a-c))<e then aw (a-c) else e))) then(zv (p,f,())).bind λ(x,g,_)=>bif g==0 then some (.inl (aZ f,u,v,x,())) else bif g==231 then some (.inr (.inr (.inr (.inr (((0:Int),((0:Int),(([]:aX),()))),((0:Int),((0:Int),(([]:ha),()))),f,g,()))))) else some (.inr (.inr (.inr (.inr (((0:Int),((0:Int),(([]:aX),()))),((0:Int),((0:Int),(([]:ha),()))),0,g,()))))) else some (.inr (.inl (u,v,p,())))) (c,s,t,o,())).bind λi=>match i with
 |.inl (E,F,w,_)=>(some (.inl (aw (c+(if(aw (a-c))<e then aw (a-c) else e)),E,F,w,())))
 |.inr j=>some j) else some (.inr (.inl (s,t,o,())))) (0,C,D,(d,((d.1,(a,(List.replicate y (0:Int),()))),(List.replicate z (false,((false,([],())),((0:Int),()))),()))),())).bind λi=>match i with
 |.inl (_,_,q,_)=>((zw (some q,a,())).bind λ(A,r,_)=>bif r !=0 then some (((0:Int),((0:Int),(([]:aX),()))),((0:Int),((0:Int),(([]:ha),()))),0,r,()) else some (q.2.1,A,a,0,()))
 |.inr j=>some j))
def zo:(hb×(Int×(Int×(aX×bt)))×k9×Unit)->Option (hb×Unit):=λ(k,c,h,_)=>(loop (σ:=(Int×hb×Unit)) (ρ:=(hb×Unit)) (λ(b,e,_)=>bif decide (b<c.2.1) then(aA e.1 b).bind λj=>(loop (σ:=(Int×hb×Unit)) (ρ:=(hb×Unit)) (λ(f,a,_)=>bif decide (f<ax j) then(aA j f).bind λs=>(uF (c.2.2.1,s,())).bind λ(p,_)=>(bh (a.2.1).length b).bind λg=>(aA h.2.2.1 (aw (aw (aw (b-c.1)*h.1)+p))).bind λi=>(a9 a.2.1 g λn=>some n).bind λq=>(bS (q.length+([i]).length)).bind λ_=>(bh (a.2.1).length b).bind λd=>bif Nat.beq g d&&true then(a9 a.2.1 d λo=>some o).bind λr=>(((a9 a.2.1 d λ_=>some ((a.2.1).set d (r++[i]))).map λt=>(t,a.2.2)).map λu=>(a.1,u)).bind λv=>some (.inl (aZ f,v,())) else none else some (.inr (a,()))) (0,e,())).bind λ(l,_)=>some (.inl (aZ b,l,())) else some (.inr (e,()))) (c.1,k,())).bind λ(m,_)=>
 some (m,())
def sk:(bP×aX×gN×Unit)->Option r7:=λ(z,r,c,_)=>(qK (z,r,())).bind λ(j,s,_)=>(bif s !=0 then some ((([]:aX),(([]:aX),(([]:aX),(([]:aX),())))),0,s,()) else j.bind λZ=>(uN (Z.2.1,c,())).bind λ(t,_)=>bif t !=0 then some ((([]:aX),(([]:aX),(([]:aX),(([]:aX),())))),0,t,()) else((loop (σ:=(Int×it×Unit)) (ρ:=((it×Unit)⊕r7)) (λ(l,w,_)=>bif decide (l<ax c) then(aA c l).bind λab=>bif decide (ax ab.2.2.1>64) then some (.inr (.inr ((([]:aX),(([]:aX),(([]:aX),(([]:aX),())))),0,6,()))) else some (.inl (aZ l,w,())) else some (.inr (.inl (w,())))) (0,([],([],([],([],())))),())).bind λe=>match e with
 |.inl (T,_)=>((wy (j,())).bind λ(N,_)=>(eo (ax c) (ax c)).bind λL=>(eo (ax c) (ax c)).bind λM=>(loop (σ:=(Int×it×hb×List gN×List (List e5)×Unit)) (ρ:=((it×hb×Unit)⊕r7)) (λ(g,m,n,b,d,_)=>bif decide (g<ax c) then(Option.bind (α:=(it×hb×List gN×List (List e5)×Unit)⊕((Int×it×hb×List gN×List (List e5)×Unit)⊕((it×hb×Unit)⊕r7))) ((aA c g).bind λa=>(bh b.length g).bind λJ=>(bh d.length g).bind λK=>(a9 b J λD=>some D).bind λx=>(a9 d K λE=>some E).bind λy=>(zK (j,a,x,y,())).bind λ(O,u,_)=>bif u !=0 then some (.inr (.inr (.inr ((([]:aX),(([]:aX),(([]:aX),(([]:aX),())))),0,u,())))) else(zu (O,aw (a.2.1-a.1),8,())).bind λ(P,v,Q,k,_)=>bif k==231 then some (.inr (.inr (.inr ((([]:aX),(([]:aX),(([]:aX),(([]:aX),())))),aw (a.1+Q),k,())))) else bif k !=0 then
 some (.inr (.inr (.inr ((([]:aX),(([]:aX),(([]:aX),(([]:aX),())))),0,k,())))) else(zo (n,a,P,())).bind λ(q,_)=>bif decide (a.2.2.2.1>=0) then(bh b.length a.2.2.2.1).bind λo=>(a9 b o λF=>some F).bind λV=>(bS (V.length+([a]).length)).bind λ_=>(bh d.length a.2.2.2.1).bind λp=>(a9 d p λG=>some G).bind λW=>(bS (W.length+([v]).length)).bind λ_=>(bh b.length a.2.2.2.1).bind λh=>bif Nat.beq o h&&true then(a9 b h λH=>some H).bind λX=>(a9 b h λ_=>some (b.set h (X++[a]))).bind λam=>(bh d.length a.2.2.2.1).bind λi=>bif Nat.beq p i&&true then(a9 d i λI=>some I).bind λY=>(a9 d i λ_=>some (d.set i (Y++[v]))).bind λan=>some (.inl (m,q,am,an,())) else none else none else some (.inl (m,q,b,d,()))) λe=>match e with
 |.inl (U,A,C,S,_)=>(some (.inl (aZ g,U,A,C,S,())))
 |.inr f=>some f) else some (.inr (.inl (m,n,())))) (0,T,N,List.replicate L [],List.replicate M [],())).bind λe=>match e with
 |.inl (_,B,_)=>((wz (some B,r,())).bind λ(R,_)=>j.bind λad=>some (R,ad.1,0,()))
 |.inr f=>some f)
 |.inr f=>some f))
def DI:(aX×Int×Int×Bool×aX×Unit)->Option e3:=λ(o,e,p,d,c,_)=>(As (o,e,p,d,())).bind λ(a,b,_)=>(wZ (a,b,c,())).bind λ(m,_)=>(sk (a,b,m,())).bind λ(n,f,g,_)=>(pn (a,b,())).bind λ(h,i,j,_)=>(bif (g==j)==true then bif (f==i)==true then(An (n,h,())).bind λ(k,_)=>bif k==true then(Ar ()).bind λ(l,_)=>some (l,()) else some (false,()) else some (false,()) else some (false,()))
end Go.hT
section
namespace Go.Proofs
open Go.RowKit Go.Shelf Go.Sort
attribute [local go_sem] Oper.semAt_some
def Tryz.Vu:Go.Shelf.Ren:=⟨λ|20=>275|n=>n,λ|22=>23|3=>3|4=>4|0=>0|n=>n,λ|n=>n⟩
theorem Tryz.JR:Lays2.n20 Tryz.prog Tryz.Vu where
 mixed:=by kernel_rfl
 f20:=Tryz.func275.trans (congrArg some (by kernel_rfl))
 t0:=Tryz.underlying0
 a0:=Tryz.isAgg0
 z0:=Tryz.sizeOf0
 v0:=Tryz.zeroValue0
 t3:=Tryz.underlying3
 a3:=Tryz.isAgg3
 z3:=Tryz.sizeOf3
 v3:=Tryz.zeroValue3
 t4:=Tryz.underlying4
 a4:=Tryz.isAgg4
 z4:=Tryz.sizeOf4
 v4:=Tryz.zeroValue4
 t22:=Tryz.underlying23
 a22:=Tryz.isAgg23
 z22:=Tryz.sizeOf23
 v22:=Tryz.zeroValue23
 i3:=by kernel_rfl
namespace G9
def kW {a:Type} (b:Nat->a) (c:Nat):List a:=(List.range c).map b
theorem Nh {c:Type} (a:Nat->c) (b:Nat):kW a (b+1)=kW a b++[a b]:=by simp[kW,iZ]
theorem abf {c:Type} (b:Nat->c) (a:Nat):(kW b a).length=a:=by simp[kW]
theorem abe (a:ab1):kW (λc=>a[c]?.getD 0) a.length=a:=by
 apply List.ext_getElem
 ·simp[kW]
 ·intro e d b;simp[kW,b]
set_option maxRecDepth 100000 in
set_option maxHeartbeats 2000000 in
theorem abn (j:Fence) (m:Nat) (A:j.fn 290) (K:j.round=none) (T:1<=m) (v q n h k b x:Nat) (g:ab1) (V:b*8<=140737488351232) (F:h<n) (J r:ab1->World->Prop) (E:∀e o c,J e c->e.length<b->YieldAt j (m-1) Tryz.prog v #[.int .i64 o] c λi f=>
  (i=.returned (.bool true)/\J (e++[o]) f/\Below n c f)\/(i=.returned (.bool false)/\r (e++[o]) f))
 (c:World) (Q:c.cell? ⟨q,0,none⟩=some (.slice (some ⟨h,k,none⟩) b x)) (G:∀d,d<b->c.cell? ⟨h,k+d,none⟩=some (.int .i64 (g[d]?.getD 0))) (z:J [] c):
 CallsIn j m Tryz.prog 290 #[.func (.yield v) #[] #[],.pointer (some ⟨q,0,none⟩)] c λi f=>(∃L,i=.returned L)/\((∃w,w=kW (λd=>g[d]?.getD 0) b/\J w f)\/(∃e,(∃a,a<=b/\e=kW (λd=>g[d]?.getD 0) a)/\r e f)):=by
 refine callsIn_of_wp Tryz.func290 rfl A ?_ K;simp only[Tryz.ntmps290,qi,h5,o3,Nat.reduceAdd,Nat.reduceSub,tH,tI,tS,tP,fO,jm]
 gi_wp2
 gi_loopw [7] (λl wr=>∃a:Nat,a<=b/\l=.int .i64 a/\J (kW (λd=>g[d]?.getD 0) a) wr/\Below n c wr) (λl _=>b-(intOf l).toNat)
 case atStart=>exact⟨0,bN _,rfl,z,Below.refl _ _⟩
 case round=>
  obtain⟨a,S,rfl,s,u⟩:=hrel;have H:a<b->wr.cell? ⟨h,k+a,none⟩=some (.int .i64 (g[a]?.getD 0)):=λy=>(u.cell (p:=⟨h,k+a,none⟩) F).trans (G a y);by_cases t:a<b
  ·obtain⟨P,X,N,O,W,D⟩:=E _ (g[a]?.getD 0) wr s (by rw[abf];exact t);have R:=H t
   gi_wp2
   refine D.mono ?_;rintro i M (⟨rfl,B,I⟩|⟨rfl,C⟩)
   ·gi_wp2
    go_roundw
    case rel=>exact⟨a+1,U,ac,by rw[Nh];exact B,u.trans I⟩
    case measure=>simp[intOf];omega
   ·gi_wp2
    refine bodyPost_ret (results_none rfl _ _ _) rfl ?_;exact⟨⟨_,rfl⟩,.inr ⟨_,⟨a+1,U,(Nh _ _).symm⟩,C⟩⟩
  ·obtain rfl:a=b:=by omega
   gi_wp2
   go_end0
   exact⟨⟨_,rfl⟩,.inl ⟨_,rfl,s⟩⟩
theorem abg (a:ab1) {b:Nat} (d:b<=a.length):kW (λf=>a[f]?.getD 0) b=a.take b:=by
 apply List.ext_getElem
 ·simp[kW,d]
 ·intro e c g;have:e<a.length:=(by simp[kW] at c;omega);simp[kW,this]
def nM (i:Nat) (g:World) (f:Value) (a:ab1):Prop:=
 (∃h c,f=.slice h 0 c/\a=[])\/∃b e c,f=.slice (some ⟨b,e,none⟩) a.length c/\b<i/\∀d,d<a.length->g.cell? ⟨b,e+d,none⟩=some (.int .i64 (a[d]?.getD 0))
theorem nM.below {b:Nat} {c d:World} (l:Below b c d) {i:Value} {j:ab1}:nM b c i j->nM b d i j
 |.inl a=>.inl a
 |.inr ⟨e,h,k,a,f,m⟩=>.inr ⟨e,h,k,a,f,λg n=>(l.cell (p:=⟨e,h+g,none⟩) f).trans (m g n)⟩
set_option maxRecDepth 100000 in
set_option maxHeartbeats 1000000 in
theorem abo (a:Fence) (n:Nat) (i:a.fn 290) (k:a.round=none) (m c:Nat) (e:Option Addr) (f:Nat) (J:ab1->World->Prop) (b:World) (p:b.cell? ⟨c,0,none⟩=some (.slice e 0 f)) (h:J [] b):CallsIn a n Tryz.prog 290 #[.func (.yield m) #[] #[],.pointer (some ⟨c,0,none⟩)] b λg d=>(∃o,g=.returned o)/\J [] d:=by
 refine callsIn_of_wp Tryz.func290 rfl i ?_ k;simp only[Tryz.ntmps290,qi,h5,o3,Nat.reduceAdd,Nat.reduceSub,tH,tI,tS,tP,fO,jm]
 gi_wp2
 gi_loopw [7] (λl wr=>l=.int .i64 0/\J [] wr) (λ_ _=>0)
 case atStart=>exact⟨rfl,h⟩
 case round=>
  obtain⟨rfl,j⟩:=hrel
  gi_wp2
  go_end0
  exact⟨⟨_,rfl⟩,j⟩
set_option maxHeartbeats 1000000 in
theorem abp (a:Fence) (i:Nat) (g:a.fn 277) (h:a.round=none) (c:Option Addr) (e d:Nat) (b:World):CallsIn a i Tryz.prog 277 #[.slice c e d] b λf j=>f=.returned (.func (.func 290) #[] #[.pointer (some ⟨b.heap.size,0,none⟩)])/\j=b.alloc (.cells #[.slice c e d] 23):=by
 refine callsIn_of_wp Tryz.func277 rfl g ?_ h;simp only[Tryz.ntmps277,qi,h5,o3,Nat.reduceAdd,Nat.reduceSub,tH,tI,tS,tP,fO,jm]
 gi_wp2
 go_ret
 exact⟨rfl,rfl⟩
theorem abq (c:Fence) (g:Nat) (l:c.fn 290) (o:c.round=none) (G:1<=g) (b h:Nat) (s:Value) (a:ab1) (I:a.length*8<=140737488351232) (e:World) (z:b<e.heap.size) (H:h<=e.heap.size) (D:e.cell? ⟨b,0,none⟩=some s) (A:nM h e s a):SeqStopsK c g Tryz.prog 290 #[.pointer (some ⟨b,0,none⟩)] (λL:Int=>#[Value.int .i64 L]) (Below h) (λt=>t=a) (λr=>r<+:a) a.length e:=λq J u j m _ _ B k=>by
 have n:=(m.cell (p:=⟨b,0,none⟩) z).trans D;rcases A.below (m.mono H) with⟨w,i,rfl,rfl⟩|⟨x,K,i,rfl,C,E⟩
 ·exact(abo c g l o q b w i J j n k).mono λy v ⟨f,d⟩=>⟨f,.inl ⟨_,rfl,d⟩⟩
 ·refine(abn c g l o G q b h x K a.length i a I C J u B j n E k).mono ?_;rintro y v ⟨f,⟨t,rfl,d⟩|⟨r,⟨M,F,rfl⟩,d⟩⟩
  ·exact⟨f,.inl ⟨_,abe a,d⟩⟩
  ·exact⟨f,.inr ⟨_,by rw[abg a F];exact List.take_prefix _ _,d⟩⟩
theorem U3:(Tryz.prog.info? 3).map (λa=>(a.zero,a.size,a.bytes))=some (some (.int .i64 0),1,8):=by kernel_rfl
set_option maxRecDepth 100000 in
set_option maxHeartbeats 2000000 in
theorem R4 (g:Fence) (m:Nat) (E:g.fn 299) (u:g.fn 290) (q:g.round=none) (ap:3<=m) (e:Nat) (r:Value) (f:ab1) (M:f.length*8<=140737488351232) (a:World) (F:e<a.heap.size) (o:a.cell? ⟨e,0,none⟩=some r) (H:nM a.heap.size a r f):CallsIn g m Tryz.prog 299 #[.slice none 0 0,.func (.func 290) #[] #[.pointer (some ⟨e,0,none⟩)]] a λB t=>∃b,B=.returned b/\t.ownsRow a.heap.size 3 1 b f.length (f.map (Value.int .i64))/\(b=.slice none 0 0↔f=[])/\Below a.heap.size a t:=by
 have D:1<=m:=U;obtain⟨S,J,P,Q,R⟩:=info_parts U3;refine callsIn_of_wp_marks Tryz.func299 rfl E ?_ q;simp only[Tryz.ntmps299,qi,h5,o3,Nat.reduceAdd,Nat.reduceSub,tH,tI,tS,tP,fO,jm]
 gi_wp2
 have A:=Boxed.new a 23 (.slice none 0 0);have n:Below a.heap.size a (a.alloc (.cells #[.slice none 0 0] 23)):=(Below.refl _ a).alloc (aY _) _;refine wpIn_rangeFunc_ownG q D (gf:=290) (lb:=#[.pointer (some ⟨e,0,none⟩)]) rfl u (enters_of Tryz.func290 (by kernel_rfl) rfl) (abq g (m-1) u q U e a.heap.size r f M _ (by simp;omega) ac ((n.cell (p:=⟨e,0,none⟩) F).trans o) (H.below n)) belowK_t (belowK_b ac) (Below.refl _ _) (λ_=>rfl) (λc d=>(∃b,Boxed d a.heap.size 23 b/\d.ownsRow a.heap.size 3 1 b c.length (c.map (Value.int .i64))/\(b=.slice none 0 0↔c=[]))/\Below a.heap.size a d) (λ_ _ _=>False) (OwnFrom.and (Own.from (holdsRow_own a.heap.size a.heap.size 23 3 1 (λc=>c.length) (λc=>c.map (Value.int .i64)) (λc b=>b=.slice none 0 0↔c=[])) _) (ownFrom_below (aY _) ac)) (λ_ _ _ _ _ N _ _=>N) ⟨⟨_,A,World.ownsRow_nil _ _ _ _,ac⟩,n⟩ (λj=>{tmps:=#[.slice none 0 0,.func (.func 290) #[] #[.pointer (some ⟨e,0,none⟩)],.pointer (some ⟨a.heap.size,0,none⟩),undef,.slice none 0 0,.int .i64 j,.func (.func 290) #[] #[.pointer (some ⟨e,0,none⟩)],.int .i64 j,undef,undef,undef,undef,undef],defers:=[]}) ?assign ?body ?done ?stop
 case assign=>
  intro T j d V i
  gi_wp2
  exact i
 case body=>
  rintro T c j d ⟨⟨b,l,k,x⟩,h⟩ an;have o:=l.cell;have am:f.length<=maxLen:=(by simp only[maxLen];omega);have Z:f.length*8<=140737488355328:=by omega
  gi_wp2_with (gi_at_builtin;refine wpListIn_append_own _ rfl _ _ 23 rfl a.heap.size 3 S (.int .i64 0) 1 8 Tryz.underlying23 J P Q R rfl aa _ _ _ rfl (k.alloc _) ⟨d.heap.size,0,none⟩ 1 1 [.int .i64 j] rfl rfl (cell_one_new _ _ _) (by simp[Value.oneCell']) U U (by have:=h.size;simp;omega) ?_;intro av a0 y I _;obtain⟨Y,X,rfl⟩:=ownsRow_succ y;obtain⟨z,O,L,K,v⟩:=l.appended aa k h.size (aY _) y I;have ab:=z.cell;have ad:=z.frozen)
  exact⟨K.from _,v,⟨_,O,by simpa using L,ac⟩,h.trans v⟩
 case done=>
  rintro s a3 d G rfl ⟨⟨b,l,k,x⟩,h⟩ i;have o:=l.cell
  gi_wp2
  refine⟨ac,.inl ⟨_,_,rfl,run_takeDeferred i,?_⟩⟩;exact⟨_,results_tmp rfl _ _ _,b,rfl,ownsRow_putObj k _ i rfl,x,h.trans (belowK_b (w:=a) (aY _) d s _ _ (by simp at G;omega) i rfl rfl)⟩
 case stop=>
  rintro s W c d _ _ C _;exact C.elim
set_option maxHeartbeats 1000000 in
theorem S3 (b:Fence) (f:Nat) (m:b.fn 288) (k:b.fn 299) (l:b.fn 290) (j:b.round=none) (v:4<=f) (e:Nat) (g:Value) (c:ab1) (s:c.length*8<=140737488351232) (a:World) (n:e<a.heap.size) (q:a.cell? ⟨e,0,none⟩=some g) (o:nM a.heap.size a g c):CallsIn b f Tryz.prog 288 #[.func (.func 290) #[] #[.pointer (some ⟨e,0,none⟩)]] a λi h=>∃d,i=.returned d/\h.ownsRow a.heap.size 3 1 d c.length (c.map (Value.int .i64))/\(d=.slice none 0 0↔c=[])/\Below a.heap.size a h:=by
 have u:1<=f:=U;refine callsIn_of_wp Tryz.func288 rfl m ?_ j;simp only[Tryz.ntmps288,qi,h5,o3,Nat.reduceAdd,Nat.reduceSub,tH,tI,tS,tP,fO,jm]
 gi_wp2_with (gi_at_call 299;refine(R4 b (f-1) k l j U e g c s _ n q o).mono ?_;rintro i w ⟨d,rfl,t,r,p⟩)
 go_ret
 exact⟨d,rfl,t,r,p⟩
open Go.hT
theorem ZJ {M:dd->Nat->Prop} {f:World} {k:Nat} {j:Value} {b:ab1} (s:f.ownsRow k 3 1 j b.length (b.map (Value.int .i64))):∃d,aN M f (.osl (.int .i64)) [j] b d/\d.Nodup/\∀h∈d,k<=h/\h<f.heap.size:=by
 rcases s.2 with⟨rfl,t⟩|⟨e,l,i,rfl,w,q,u,A,v,m⟩
 ·obtain rfl:=k2 t;exact⟨[],⟨none,0,rfl,.inl ⟨rfl,rfl,rfl,rfl⟩⟩,ac,ac⟩
 ·rw[Nat.mul_one] at v m;have o:∀a,a<l->f.cell? ⟨e,a,none⟩=some (i[a]?.getD undef)/\f.frozen? ⟨e,a,none⟩=false:=λa c=>by
   constructor<;>simp[World.cell?,World.frozen?,q,(U:a<i.size)]
  refine⟨[e],⟨some ⟨e,0,none⟩,l,rfl,.inr ⟨e,0,List.replicate b.length [],rfl,ac,ac,u,λa _ c=>?_,λg z d r p=>?_⟩⟩,ac,λh n=>?_⟩
  ·obtain⟨ar,y⟩:=o a (by simpa[ah.size] using c);exact⟨by rw[ar];rfl,y⟩
  ·have x:g<b.length:=(ey.1 r).1;obtain rfl:d=[]:=by
    rw[lD] at p;split at p<;>simp_all
   refine⟨[.int .i64 z],rfl,λa j c=>?_,rfl,rfl⟩;cases a with
   |succ a=>simp at c
   |zero=>
    simp only[iY,bH] at c;subst c;simp only[ah.size,Nat.mul_one,ip,jM];rw[(o g U).1];have:(i.toList.take b.length)[g]?=(b.map (Value.int .i64))[g]?:=(by rw[m]);rw[k3 x,tG,eN,r] at this;rw[this];rfl
  ·simp only[eS] at n;subst n;exact⟨w,(md.1 q).1⟩
theorem UX {o:dd->Nat->Prop} {n:World} {i:Value} {a:ab1} {k:ab0} (g:aN o n (.osl (.int .i64)) [i] a k):(∃j b,i=.slice j 0 b/\a=[])\/∃c e b,i=.slice (some ⟨c,e,none⟩) a.length b/\a.length<=b/\Holds (Value.int .i64) n c e a.toArray/\k=[c]:=by
 obtain⟨j,b,m,g⟩:=g;simp only[fY,and_true] at m;subst m;rcases g with⟨rfl,rfl,rfl,rfl⟩|⟨c,e,f,rfl,rfl,A,s,t,l⟩
 ·exact .inl ⟨none,0,rfl,rfl⟩
 ·right;have u:f.flatten=[]:=by
   rw[List.flatten_eq_nil_iff];intro C x;obtain⟨h,B,rfl⟩:=fH.1 x;obtain⟨r,_,_,y⟩:=l h (a[h]'(by omega)) f[h] ac ac
   exact y.1
  refine⟨c,e,b,rfl,s,λd v=>?_,by rw[u]⟩;have w:d<a.length:=(by simpa using v);obtain⟨r,z,p,_,q⟩:=l d a[d] (f[d]'(by omega)) ac ac
  subst q;have ar:=p 0 _ rfl;simp only[ah.size,Nat.mul_one,jM] at ar;exact⟨by rw[ar];simp[w],(t (e+d) U (by simp only[ah.size];omega)).2⟩
def CS (E:dY) (c:ab1->c3):Prop:=∀b a,c b=some a->p7 E 289 [.m ⟨.osl (.int .i64),b⟩ a] []
set_option maxRecDepth 100000 in
set_option maxHeartbeats 2000000 in
theorem aaA (i:Fence) (h:∀e,i.fn e) (z:i.round=none) (O:∀(ab:Nat) (e:FuncId) (v:abS) (c:World) (t:Ending->World->Prop),Calls Tryz.prog e v c t->CallsIn i ab Tryz.prog e v c t) {E:dY} (I:E.P=Tryz.prog) {C:ab1->c3} (Y:CS E C) (k:Nat) (av:5<=k) (m:Nat) (r:Value) (l s:ab1) (Z:C l=some s) (W:l.length*8<=140737488351232) (c:World) (J:jL E (λb=>b<c.heap.size) c) (H:m<c.heap.size) (N:c.cell? ⟨m,0,none⟩=some r) (K:nM c.heap.size c r l):CallsIn i k Tryz.prog 276 #[.func (.func 290) #[] #[.pointer (some ⟨m,0,none⟩)]] c λp u=>∃g e D,p=.returned g/\aN D u (.osl (.int .i64)) [g] s e/\(∀b∈e,c.heap.size<=b)/\Below c.heap.size c u:=by
 have ap:1<=k:=U;have a0:=h 288;have a3:=h 289;refine callsIn_of_wp Tryz.func276 rfl (h _) ?_ z;simp only[Tryz.ntmps276,qi,h5,o3,Nat.reduceAdd,Nat.reduceSub,tH,tI,tS,tP,fO,jm]
 gi_wp2_with (first
  |(
   gi_at_call 288;refine(S3 i (k-1) (h _) (h _) (h _) z U m r l W _ H N K).mono ?_;rintro p F ⟨g,rfl,A,T,d⟩
   obtain⟨e,V,S,o⟩:=ZJ (M:=bc (λ_=>False) (λ_=>False)) A;have n:=Y l s Z F (λb=>b<c.heap.size) (λ_=>False) [g] [e] (λb a=>by rcases a with a|a;exact hp a d.size;exact a.elim) ⟨⟨[g],rfl,V⟩,trivial⟩ (by simpa using S) (λb d=>⟨Nat.not_lt.2 (o b (by simpa using d)).1,λa=>a,(o b (by simpa using d)).2⟩) True.intro (J.mono (λ_ a=>a) λb a=>d.block b a);rw[I] at n;have n:=O (k-1) _ _ _ _ n;clear A T)
  |(gi_at_call 289;refine n.mono ?_;rintro p am ⟨ad,w,a4,B,rfl,f⟩))
 have Q:∃j,w=[j]:=by
  have:=f.args
  match w,this with
  |[j],_=>exact⟨j,rfl⟩
  |[],a=>exact a.elim
  |_::_::_,a=>exact a.2.elim
 obtain⟨j,rfl⟩:=Q;obtain⟨an,aj,y⟩:=f.args.1;have R:=y.len;obtain⟨G,rfl⟩:=tR.1 R;have aj:g=G:=aj;subst aj;have X:B=[]:=by
  have:=f.res
  match B,this with
  |[],_=>rfl
  |_::_,a=>exact a.elim
 subst X
 go_ret
 refine⟨g,j,_,rfl,y,λb L=>?_,?_⟩
 ·have:=(f.HU b (by simp[L])).2.2.2;rcases this with a|a
  ·exact dn d.size a
  ·exact(o b (by simpa using a)).1
 ·exact⟨f.os.trans d.os,f.tape.trans d.tape,f.output.trans d.output,dn d.size f.size,λq x=>(f.heap q (hp x d.size) (λa=>by have:=(o q (by simpa using a)).1;omega)).trans (d.block q x)⟩
theorem Ta {j:dd->Nat->Prop} {b:World} {B:Nat} {i:Value} {e:ab1} {h:ab0} (n:aN j b (.osl (.int .i64)) [i] e h) (m:∀c∈h,B<=c) (r:e.length<=1000000):Calls Tryz.prog 275 #[i] b (λf g=>∃d a,f=.returned (.slice d (Lib.compact e).length a)/\Below B b g):=by
 rcases UX n with⟨d,a,rfl,rfl⟩|⟨c,p,a,rfl,l,k,rfl⟩
 ·refine(Any.slices_Compact_int_empty Tryz.JR d a b).mono ?_;rintro f g ⟨rfl,rfl⟩;exact⟨d,a,rfl,Below.refl _ _⟩
 ·refine(Any.slices_Compact_int Tryz.JR c p a e b k U l).mono ?_;rintro f g ⟨rfl,s,rfl⟩;refine⟨_,a,rfl,rfl,rfl,rfl,by simp[putRow,mapBlock,Sort.ahead],λo q=>?_⟩;have:=m c ac;simp[putRow,mapBlock,Sort.ahead,p6,(U:c≠o)]
set_option maxRecDepth 100000 in
set_option maxHeartbeats 2000000 in
theorem aa2 (g:Fence) (i:∀k,g.fn k) (p:g.round=none) (t:∀(S:Nat) (k:FuncId) (r:abS) (a:World) (q:Ending->World->Prop),Calls Tryz.prog k r a q->CallsIn g S Tryz.prog k r a q) {E:dY} (F:E.P=Tryz.prog) {x:ab1->c3} (O:CS E x) (j:Nat) (ad:7<=j) (c:Option Addr) (b e:Nat) (f m:ab1) (R:x f=some m) (N:f.length=b) (av:f.length<=1000000) (Q:m.length<=1000000) (a:World) (G:jL E (λd=>d<a.heap.size) a) (H:nM a.heap.size a (.slice c b e) f):CallsIn g j Tryz.prog 249 #[.slice c b e] a λh z=>h=.returned (.bool (decide ((Lib.compact m).length<f.length)))/\Below a.heap.size a z:=by
 have ab:1<=j:=U;have am:=i 277;have an:=i 276;have ap:=i 275;generalize M:(Lib.compact m).length=Z;refine callsIn_of_wp Tryz.func249 rfl (i _) ?_ p;simp only[Tryz.ntmps249,qi,h5,o3,Nat.reduceAdd,Nat.reduceSub,tH,tI,tS,tP,fO,jm];have C:=Boxed.new a 23 (.slice c b e);have n:Below a.heap.size a (a.alloc (.cells #[.slice c b e] 23)):=(Below.refl _ a).alloc (aY _) _;have I:nM (a.alloc (.cells #[.slice c b e] 23)).heap.size (a.alloc (.cells #[.slice c b e] 23)) (.slice c b e) f:=by
  rcases H.below n with l|⟨d,T,D,h,o,L⟩
  ·exact .inl l
  ·exact .inr ⟨d,T,D,h,by simp;omega,L⟩
 have w:=aaA g i p t F O (j-1) U a.heap.size (.slice c b e) f m R U _ (G.mono (λd (l:d<a.heap.size)=>hp l n.size) λd l=>n.block d l) ac C.cell I
 gi_wp2_with (first
  |(gi_at_call 277;refine(abp g (j-1) (i _) p c b e a).mono ?_;rintro h a3 ⟨rfl,rfl⟩)
  |(gi_at_call 276;refine w.mono ?_;rintro h y ⟨a0,k,V,rfl,v,u,o⟩;have s:=t (j-1) _ _ _ _ (Ta (B:=a.heap.size) v (λd J=>by have:=u d J;simp at this;omega) Q);rw[M] at s;have A:Below a.heap.size a y:=n.trans (o.mono ac);clear v u o w)
  |(gi_at_call 275;refine s.mono ?_;rintro h W ⟨X,Y,rfl,K⟩))
 go_ret
 exact⟨by rw[N];rfl,A.trans K⟩
def aaZ (c:ab1->c3):aF:=⟨249,[.v (.a6 .dk (.int .i64))],[.bool],λa=>(yw c a.1).map λb=>(b,())⟩
theorem aa0 {E:dY} (q:E.P=Tryz.prog) {sort:ab1->c3} (K:CS E sort):aD E (aaZ sort):=by
 refine⟨λg f=>by rw[q];exact Tryz.call249 g f,?_⟩;rintro⟨d,_⟩ b c;have w:(yw sort d).map (λb=>(b,()))=some b:=c;obtain⟨B,e,rfl⟩:=eb.1 w;clear c w;unfold yw at e;cases l:Nat.ble d.length 1000000 with
 |false=>rw[l] at e;cases e
 |true=>
 rw[l] at e;obtain⟨s,M,e⟩:=c9.1 e;cases m:Nat.ble s.length 1000000 with
 |false=>rw[m] at e;cases e
 |true=>
 rw[m] at e;have c:decide ((Lib.compact s).length<d.length)=B:=dV e;subst c;have l:=eT l;have m:=eT m;rintro f t A g k u h Z Y _hself;have h:kF (vH t A f) [.v ⟨.a6 .dk (.int .i64),d⟩] g k:=h;obtain⟨p,j,rfl,rfl⟩:∃p j,g=[p]/\k=[j]:=by
  cases g with
  |nil=>exact h.elim
  |cons p g=>
   cases k with
   |nil=>exact h.elim
   |cons j k=>
    have a:=h.2;cases g with
    |nil=>cases k with
     |nil=>exact⟨p,j,rfl,rfl⟩
     |cons=>exact a.elim
    |cons=>exact a.elim
 obtain⟨⟨rfl,S,rfl,J⟩,_⟩:=h;obtain⟨_,o,i,rfl,X,ab,I⟩:=J;have G:nM f.heap.size f (.slice o d.length i) d:=by
  rcases I with a|⟨b,O,rfl,H,L⟩
  ·exact .inl ⟨o,i,by rw[show d=[] from a];rfl,a⟩
  ·refine .inr ⟨b,O,i,rfl,u b H,λy x=>?_⟩;obtain⟨V,T,C,_,D⟩:=L y d[y] (by simp[x]);subst D;have z:=C 0 _ rfl;simp only[ah.size,Nat.mul_one,jM] at z;rw[z];simp[x]
 intro F;have a:=aa2 Fence.wide (λ_=>trivial) rfl (λN j R f Q a=>(callsIn_wide (n:=N)).2 a) q K 10 U o d.length i d s M rfl l m f (F.mono (λb a=>u b (.inl a)) λ_ _=>rfl) G;have a:=callsIn_wide.1 a;show Calls E.P 249 #[.slice o d.length i] f _;rw[q];refine a.mono ?_;rintro W ad ⟨rfl,c⟩;refine⟨t,[[]],[[]],[.bool _],rfl,⟨⟨rfl,trivial⟩,⟨⟨[.bool _],rfl,rfl,rfl⟩,trivial⟩,ac,ac,λ_ a=>a,λ_ a=>.inl a,c.size,c.os,c.tape,c.output,λb r=>.of_heap (c.block b r),λb r _=>c.block b r⟩⟩
end G9
end Go.Proofs
end
namespace Go.hT
variable{a:Nat}{b:ab1}{c:Type}{d:Value}{e:Int}{f:World}{g:List ResultVar}{h:dd->Nat->Prop}{i:List fP}{j:List ah}{k:Nat->Prop}
section
open Go.Proofs
open Tryz
abbrev ei:ah:=(.int .u32)
abbrev dD:ah:=(.a6 .bx ei)
abbrev bo:ah:=(.st (.pr .bool (.pr dD .nil)))
abbrev aE:ah:=(.int .i64)
abbrev bv:ah:=(.st (.pr .bool (.pr bo (.pr aE .nil))))
abbrev bO:ah:=(.osl aE)
abbrev bD:ah:=(.int .u64)
abbrev Ha:ah:=(.pr bO (.pr bO (.pr (.osl bD) .nil)))
abbrev eA:ah:=(.a6 .dk aE)
abbrev jP:ah:=(.a6 .dk bD)
abbrev Hb:ah:=(.pr eA (.pr eA (.pr jP .nil)))
abbrev fg:ah:=(.a6 .bx aE)
abbrev Hc:ah:=(.pr fg (.pr fg (.pr (.a6 .bx bD) .nil)))
abbrev jt:ah:=(.osl bv)
abbrev jQ:ah:=(.st (.pr aE (.pr aE (.pr jt .nil))))
abbrev hW:ah:=(.st (.pr aE (.pr aE (.pr eA (.pr aE .nil)))))
abbrev He:ah:=(.osl (.osl bD))
abbrev i9:ah:=(.optr (.st (.pr (.a6 .bx fg) (.pr He (.pr (.osl (.mp bv)) (.pr (.osl bO) .nil))))))
abbrev h7:ah:=(.st (.pr aE (.pr aE (.pr (.a6 .bx bv) .nil))))
abbrev kj:ah:=(.st (.pr aE (.pr aE (.pr bD .nil))))
abbrev pb:ah:=(.st (.pr aE (.pr aE (.pr (.osl bD) .nil))))
abbrev js:ah:=(.st (.pr aE (.pr aE Ha)))
abbrev dL:ah:=(.optr js)
abbrev fQ:ah:=(.st (.pr (.a6 .bx fg) .nil))
abbrev jr:ah:=(.st (.pr (.a6 .dk eA) .nil))
abbrev hV:ah:=(.st (.pr aE (.pr aE Hb)))
abbrev pc:ah:=(.st (.pr fg Hc))
abbrev ir:ah:=(.osl (.st (.pr aE (.pr aE (.pr bO (.pr aE .nil))))))
abbrev g8:ah:=(.osl .bool)
abbrev dW:ah:=(.osl g8)
abbrev kk:ah:=(.st (.pr aE (.pr aE Hc)))
abbrev pd:ah:=(.st (.pr aE (.pr aE (.pr (.a6 .dk bv) .nil))))
abbrev h8:ah:=(.st (.pr (.osl fg) .nil))
abbrev da:ah:=(.osl ei)
abbrev k6:ah:=(.st (.pr .bool (.pr bo (.pr aE (.pr .bool .nil)))))
abbrev eU:ah:=(.optr jQ)
abbrev wd:ah:=(.st (.pr bO Ha))
abbrev yW:ah:=(.optr wd)
abbrev g3:ah:=(.optr bv)
abbrev CT:ah:=(.st (.pr aE (.pr aE (.pr (.a6 .bx bD) .nil))))
abbrev gb:ah:=(.ptr .bx bo)
abbrev dE:ah:=(.optr bo)
abbrev CU:ah:=(.st (.pr eA Hb))
abbrev ms:ah:=(.optr (.st (.pr bO (.pr bO .nil))))
abbrev ql:ah:=(.optr (.st (.pr h7 (.pr pb (.pr jt .nil)))))
abbrev r5:ah:=(.optr (.st (.pr aE (.pr fQ (.pr (.osl (.mp bv)) .nil)))))
abbrev kE:ah:=(.ptr .bx hV)
abbrev eI:ah:=(.osl kj)
abbrev nX:ah:=(.ptr .bx bv)
abbrev wc:ah:=(.ptr .dk (.st (.pr aE (.pr jr (.pr (.a6 .dk (.dJ .dk bv)) .nil)))))
abbrev qm:ah:=(.optr (.st (.pr dW (.pr g8 .nil))))
abbrev yX:ah:=(.st (.pr aE (.pr aE (.pr jP .nil))))
abbrev i7:ah:=(.ptr .bx jr)
abbrev r6:ah:=(.optr pc)
abbrev lI:ah:=(.a6 .dk hW)
abbrev tZ:ah:=(.optr pb)
abbrev Hd:ah:=(.ptr .bx CU)
def tt:List (Nat×ah):=[(3,aE),(4,.bool),(5,(.int .u8)),(9,.str),(22,(.a6 .bx bD)),(23,fg),(25,(.a6 .bx bD)),(27,kk),(31,pc),(39,(.a6 .bx fg)),(41,fQ),(50,bD),(51,bD),(55,dD),(57,bo),(59,bv),(62,(.a6 .bx bv)),(71,CT),(75,h7),(84,(.a6 .bx (.st (.pr aE (.pr aE (.pr fg (.pr aE .nil))))))),(90,(.st (.pr aE (.pr aE (.pr fg (.pr aE .nil)))))),(102,(.a6 .bx (.dJ .bx bv))),(104,(.st (.pr aE (.pr fQ (.pr (.a6 .bx (.dJ .bx bv)) .nil))))),(109,(.a6 .bx (.a6 .bx bD))),(117,(.a6 .bx kj)),(120,kj),(122,(.a6 .bx (.a6 .bx .bool))),(124,(.a6 .bx .bool)),(132,bD),(139,ei),(149,(.a6 .bx (.a6 .bx bv))),(155,(.a6 .bx (.a6 .bx (.st (.pr aE (.pr aE (.pr fg (.pr aE .nil)))))))),(156,(.a6 .bx (.a6 .bx h7))),(158,(.a6 .bx h7)),(166,(.dJ .bx bv)),(168,(.st (.pr (.a6 .bx fg) (.pr (.a6 .bx (.a6 .bx bD)) (.pr (.a6 .bx (.dJ .bx bv)) (.pr (.a6 .bx fg) .nil)))))),(175,(.st (.pr (.a6 .bx (.a6 .bx .bool)) (.pr (.a6 .bx .bool) .nil)))),(206,(.st (.pr h7 (.pr CT (.pr (.a6 .bx bv) .nil))))),(212,(.a6 .bx (.a6 .bx .bool))),(223,k6),(254,(.st (.pr fg (.pr fg .nil)))),(306,bD)]
theorem M5:∀a b,al tt a=some b->dM Tryz.prog b a:=M6 (by kernel_rfl)
def E:dY:={P:=Tryz.prog,tt:=tt,ok:=M5,mix:=by kernel_rfl,glob:=[⟨0,266,.u8,n3⟩],gok:=UK M5 (S:=5) (by kernel_rfl) (by kernel_rfl)}
def Ox:aF:=⟨155,[.v dD],[da],n7⟩
theorem x3:aD E Ox:=
 .q aJ (.k [0] (.n (.n (.t .none (.o (.p ⟨[aT 3],[]⟩ (.x 0 ⟨[aT 3],[]⟩) (.t (.bw [3] ⟨[],[]⟩) .l .l))) (.n (.t .none (.n (.o (.k [3] (.p ⟨[ai 4,aT 5],[(4,da)]⟩ (.x 2 ⟨[ai 4],[(4,da)]⟩) .l)))) .l)))))) func155 call155 [(4,da)]
def Ow:aF:=⟨153,[.v .bool,.v dD],[bo],lT⟩
theorem vj:aD E Ow:=
 .q (ao x3 aJ) (.k [0] .l) func153 call153 [(4,bo),(1,dD)] [(1,6)]
def OF:aF:=⟨162,[.v aE],[bo],uH⟩
theorem Fi:aD E OF:=
 .q (ao vj aJ) (.k [0] (.n (.n (.t (.x [] ⟨[ai 2,(3,.v bD)],[(2,dE)]⟩) .l .l)))) func162 call162 [(2,bo)] [(21,20)]
def Oo:aF:=⟨149,[.v bo],[bo],qG⟩
theorem BP:aD E Oo:=
 .q (ao vj aJ) (.k [0] .l) func149 call149 [(1,gb),(2,bo)]
def Rg:aF:=⟨87,[],[bv],uI⟩
theorem BZ:aD E Rg:=
 .q aJ .l func87 call87 [(0,bv)]
def sW (a:Int):fG:=⟨E.tt,[],[],14,[0]++(iN 0 [.v ei]++mS (iz 0 [.v ei])),[(0,.val ei a)]++[],[],iz 0 [.v ei],[],[],E.glob⟩
noncomputable def q1:Code:=Tryz.f222.body.getD .skip
def sX:Array Oper:=(tm 3 q1).getD #[]
def EC:kX:=.two .none (.leaf) (.two .none (.two .none (.leaf) (.leaf)) (.leaf))
def Br:kX:=.keep [0] (.two .none (.leaf) (.two .none EC (.two .none (.leaf) (.leaf))))
def u0 (a:Int):aH:=⟨[(4,.val .bool (a==0)),(3,.val ei a),(2,.val aE 0),(0,.val ei a)],[]⟩
def EB (a:Int):Exit->aH->Option (hC [.v ei] (kr [.int .i64])):=I2 E.tt [.v ei] [.tmp 2] [.int .i64] (a,())
theorem Vn:q1=.seq (Cn q1) (.seq (Cn (Mv q1)) (.seq (.region 3 sX false) .ret)):=by kernel_rfl
theorem Vq:sX.size=10:=by kernel_rfl
theorem Vo (a:Int) (b:Exit->aH->Option c) (d:aH->Option c):gL (sW a) .leaf (Cn q1) ⟨[(0,.val ei a)],[]⟩ c (ym (λe=>gL (sW a) EC (Cn (Mv q1)) e c (ym d b)) b)=bif a==0 then b .ret ⟨(2,.val aE 32)::(u0 a).g,[]⟩ else d (u0 a):=by kernel_rfl
theorem Vk (a:Int) (b:aH->Option c):jC (sW a) sX [0,1,2,3,4] (u0 a) b=b ⟨(9,.val ei (IntKind.u32.wrap (dq IntKind.u32 a (IntKind.u32.wrap (0-a))*125613361)))::(8,.val ei (dq IntKind.u32 a (IntKind.u32.wrap (0-a))))::(7,.val ei (IntKind.u32.wrap (0-a)))::(6,.val ei a)::(5,.val ei a)::(u0 a).g,[]⟩:=by kernel_rfl
theorem Vl (a c d b:Int):jC (sW a) sX [5,6,7,8,9] ⟨(9,.val ei b)::(8,.val ei c)::(7,.val ei d)::(6,.val ei a)::(5,.val ei a)::(u0 a).g,[]⟩ (EB a .ret)=(dm IntKind.u32 b 27).bind λe=>(aA n3 e).bind λf=>some (IntKind.i64.wrap f,()):=by kernel_rfl
theorem Vr (a:Int):EB a .ret ⟨(2,.val aE 32)::(u0 a).g,[]⟩=some ((32:Int),()):=by kernel_rfl
theorem Vp (a:Int) (d:fV [.v ei]) (f g:Code) (b:Exit->aH->Option c) (h:d=(a,())):gL ⟨E.tt,[],[],14,iN 0 [.v ei]++mS (iz 0 [.v ei]),[],[],iz 0 [.v ei],[],[],E.glob⟩ Br (.seq f (.seq g (.seq (.region 3 sX false) .ret))) ⟨lO 0 [.v ei] d,lP 0 [.v ei] d⟩ c b=gL (sW a) .leaf f ⟨[(0,.val ei a)],[]⟩ c (ym (λe=>gL (sW a) EC g e c (ym (λe=>jC (sW a) sX (List.range sX.size) e (b .ret)) b)) b):=by subst h;rfl
theorem Vm (b:fV [.v ei]):Bn ⟨E.tt,[],[],14,iN 0 [.v ei]++mS (iz 0 [.v ei]),[],[],iz 0 [.v ei],[],[],E.glob⟩ Br q1 [.v ei] [.tmp 2] [.int .i64] b=uD b:=by obtain⟨a,⟨⟩⟩:=b;show gL _ Br q1 _ _ (EB a)=_;rw[Vn,Vp a _ _ _ _ rfl,Vo,Vq,show List.range 10=[0,1,2,3,4]++[5,6,7,8,9] from rfl,Em,Vk,Vl,Vr];exact Eq.refl (bif a==(0:Int) then some ((32:Int),()) else(dm IntKind.u32 (IntKind.u32.wrap (dq IntKind.u32 a (IntKind.u32.wrap (0-a))*125613361)) 27).bind λc=>(aA n3 c).bind λd=>some (IntKind.i64.wrap d,()))
def PD:aF:=⟨222,[.v ei],[aE],uD⟩
theorem Lb:aD E PD:=
 aD.of (fn:=Tryz.f222) (rs:=[.tmp 2]) [] [] [] Br func222 (by kernel_rfl) (by kernel_rfl) (by kernel_rfl) call222 MT (by intro a;exact Vm a)
def Ot:aF:=⟨150,[.v bo],[aE],pu⟩
theorem KR:aD E Ot:=
 .q (ao Lb (ao x3 aJ)) (.k [0] (.n (.n (.t .none (.n (.o (.k [3] (.p ⟨[aT 4],[]⟩ (.bw 0 ⟨[],[]⟩) .l)))) .l)))) func150 call150 [(1,gb),(3,dD)] [(3,7)]
def Ro:aF:=⟨96,[.v bo],[bo],uG⟩
theorem Fz:aD E Ro:=
 .q (ao vj aJ) (.k [0] .l) func96 call96 [(1,gb),(2,bo)]
def OB:aF:=⟨159,[.v dD,.v aE],[da],Ay⟩
theorem Xa:aD E OB:=
 .q aJ (.k [0,1] (.n (.n (.n (.t .none (.n (.o (.p ⟨[ai 5,(6,.v bD),aT 7],[(5,da)]⟩ (.x 0 ⟨[ai 5,(6,.v bD)],[(5,da)]⟩) .l))) .l))))) func159 call159 [(10,da)]
def OD:aF:=⟨160,[.v dD,.v aE],[da,.bool],w6⟩
theorem KU:aD E OD:=
 .q aJ (.k [0,1] (.n (.n (.t .none (.n (.o (.p ⟨[(6,.v .bool),aT 7],[]⟩ (.x 0 ⟨[(6,.v .bool)],[]⟩) (.t (.bw [6,7] ⟨[],[]⟩) .l (.t (.x [7] ⟨[(6,.v .bool)],[]⟩) .l .l))))) (.n (.n (.t .none (.n (.o (.k [9] (.p ⟨[(6,.v .bool),ai 8,aT 10],[(8,da)]⟩ (.x 2 ⟨[(6,.v .bool),ai 8],[(8,da)]⟩) (.n (.t (.x [10] ⟨[(6,.v .bool),ai 8],[(8,da)]⟩) (.o (.n (.t (.x [6] ⟨[ai 8,(11,.v bD)],[(8,da)]⟩) .l (.t (.x [11] ⟨[(6,.v .bool),ai 8],[(8,da)]⟩) .l .l)))) .l)))))) .l))))))) func160 call160 [(8,da)]
def Rk:aF:=⟨91,[.v bo],[bo],Au⟩
theorem YQ:aD E Rk:=
 .q (ao vj aJ) (.k [0] .l) func91 call91 [(1,gb),(2,bo)]
def Oy:aF:=⟨156,[.v dD,.v dD],[da],Aw⟩
theorem W7:aD E Oy:=
 .q aJ (.k [0,1] (.n (.n (.n (.t .none (.n (.o (.p ⟨[ai 5,(6,.v bD),aT 7],[(5,da)]⟩ (.x 0 ⟨[ai 5,(6,.v bD)],[(5,da)]⟩) (.n (.t (.x [7] ⟨[ai 5,(6,.v bD)],[(5,da)]⟩) (.o (.t (.x [] ⟨[ai 5,(6,.v bD)],[(5,da)]⟩) .l (.t (.x [] ⟨[ai 5,(6,.v bD)],[(5,da)]⟩) .l .l))) .l))))) .l))))) func156 call156 [(5,da)]
def Oz:aF:=⟨157,[.v dD,.v dD],[aE],Ax⟩
theorem W8:aD E Oz:=
 .q aJ (.k [0,1] (.n (.n (.t .none (.n (.o (.p ⟨[aT 5],[]⟩ (.bw 0 ⟨[],[]⟩) .l))) .l)))) func157 call157
def OA:aF:=⟨158,[.v dD,.v dD],[da],w7⟩
theorem W9:aD E OA:=
 .q aJ (.k [0,1] (.n (.n (.n (.t .none (.n (.o (.p ⟨[ai 5,(6,.v bD),aT 7],[(5,da)]⟩ (.x 0 ⟨[ai 5],[(5,da)]⟩) (.n (.t (.x [7] ⟨[ai 5,(6,.v bD)],[(5,da)]⟩) (.o (.n (.t (.x [] ⟨[ai 5,(8,.v bD)],[(5,da)]⟩) .l .l))) .l))))) .l))))) func158 call158 [(5,da)]
def Rm:aF:=⟨94,[.v bo,.v bo],[bo],sx⟩
theorem Fx:aD E Rm:=
 .q (ao W9 (ao W8 (ao W7 (ao x3 (ao vj aJ))))) (.k [0,1] (.n (.t .none (.d [.a,.a,.c [290] [288],.a,.a,.c [386] [384],.c [290] [288,289],.c [386] [384,385]]) (.t .none (.n (.t .none (.t .none (.d [.a,.a,.a,.a,.c [706] [704],.c [706] [704,705],.c [130] [128]]) .l) .l)) (.t .none (.n (.t .none (.t .none (.d [.a,.a,.a,.a,.c [1026] [1024],.c [1026] [1024,1025],.c [130] [128]]) .l) .l)) (.t .none (.d [.a,.a,.a,.a,.c [1218] [1216],.c [1218] [1216,1217],.c [130] [128]]) .l)))))) func94 call94 [(2,gb),(3,gb),(4,bo),(5,dD),(6,dD)] [(5,9),(6,12),(23,22),(33,32),(39,38)]
def OE:aF:=⟨161,[.v bo,.v bo],[bo],Av⟩
theorem Xc:aD E OE:=
 .q (ao Fx (ao YQ aJ)) (.k [0,1] (.n (.t .none (.d [.a,.a,.a,.a,.c [130] [128]]) .l))) func161 call161 [(2,gb),(3,gb),(4,bo)]
def Rn:aF:=⟨95,[.v bo,.v aE],[bo],nl⟩
theorem Fy:aD E Rn:=
 .q (ao Fi (ao Xc (ao KU (ao Xa (ao vj (ao BP aJ)))))) (.k [0,1] (.n (.n (.t .none (.n (.t .none (.t .none (.d [.b [66,68],.b [68],.b [66,72],.b [72],.a,.c [546] [544],.c [546] [544,545],.c [130] [128]]) .l) .l)) (.n (.n (.t (.x [] ⟨[ai 4,ai 7],[(4,dE),(7,dE)]⟩) (.t (.x [] ⟨[ai 4,ai 7,(35,.v .bool)],[(4,dE),(7,dE)]⟩) .l (.t .none (.d [.b [226],.a,.a,.c [226] [224]]) .l)) .l))))))) func95 call95 [(4,bo),(5,dD),(7,bo)] [(5,25000),(18,17)]
def Ou:aF:=⟨151,[.v bo,.v aE],[bo],uK⟩
theorem KS:aD E Ou:=
 .q (ao Fy aJ) (.k [0] (.n (.t .none (.o (.p ⟨[aT 1,ai 2,ai 4],[(2,dE),(4,dE)]⟩ (.x 0 ⟨[aT 1,ai 2,ai 4],[(2,dE),(4,dE)]⟩) .l)) .l))) func151 call151 [(4,bo)]
def PE:aF:=⟨223,[.v ei],[aE],uC⟩
theorem Fl:aD E PE:=
 .q aJ (.n (.t (.x [] ⟨[(0,.v ei),aT 2],[]⟩) .l (.t (.x [] ⟨[(0,.v ei),aT 2],[]⟩) .l .l))) func223 call223
def Ov:aF:=⟨152,[.v bo],[aE],w4⟩
theorem KT:aD E Ov:=
 .q (ao Fl (ao x3 aJ)) (.k [0] .l) func152 call152 [(1,gb),(3,dD)] [(3,6)]
def Rh:aF:=⟨88,[.v bo,.v aE],[bv],pv⟩
theorem x6:aD E Rh:=
 .q (ao Fz (ao BZ (ao KT (ao KS (ao KR (ao BP aJ)))))) (.k [0,1] (.n (.n (.n (.n (.n (.n (.n (.n (.t (.bw [2,7] ⟨[ai 4,ai 5],[(4,g3),(5,dE)]⟩) (.t (.x [] ⟨[ai 4,ai 5,(36,.v .bool)],[(4,g3),(5,dE)]⟩) .l .l) .l)))))))))) func88 call88 [(2,gb),(4,bv),(5,bo)]
def NV:aF:=⟨119,[.v aE],[bv],w8⟩
theorem KK:aD E NV:=
 .q (ao x6 (ao Fi aJ)) (.k [0] .l) func119 call119 [(2,bv)]
def Rj:aF:=⟨90,[.v bv],[bv],uJ⟩
theorem Fv:aD E Rj:=
 .q (ao x6 (ao BZ aJ)) (.k [0] .l) func90 call90 [(1,nX),(2,bv)]
def Rl:aF:=⟨93,[.v bo],[aE],qH⟩
theorem Fw:aD E Rl:=
 .q (ao BP aJ) (.k [0] .l) func93 call93
def Pv:aF:=⟨214,[.v .bool,.v bD],[bD],pw⟩
theorem K8:aD E Pv:=
 .q aJ (.k [0,1] .l) func214 call214
def Ps:aF:=⟨211,[.v .bool,.v aE],[bD],xa⟩
theorem XG:aD E Ps:=
 .q (ao K8 aJ) (.k [0,1] (.n (.t (.bw [] ⟨[],[]⟩) (.t (.x [] ⟨[(21,.v .bool)],[]⟩) .l .l) .l))) func211 call211
def Qf:aF:=⟨261,[.v bo,.v aE],[.bool],w5⟩
theorem Yb:aD E Qf:=
 .q (ao KU (ao x3 aJ)) (.k [0,1] .l) func261 call261 [(2,gb),(5,dD)] [(5,13000),(12,10)]
def Qg:aF:=⟨262,[.v .bool,.v aE,.v .bool,.v aE],[.bool],AC⟩
theorem Yc:aD E Qg:=
 .q aJ (.k [0,1,2,3] .l) func262 call262
def Pt:aF:=⟨212,[.v .bool,.v bo,.v aE,.v .bool,.v aE],[bo],AA⟩
theorem XH:aD E Pt:=
 .q (ao Fx (ao Fw (ao Yc (ao Yb (ao Fi (ao KS (ao KR aJ))))))) (.k [0,1,2,3,4] (.n (.n (.n (.t (.bw [6] ⟨[ai 10,ai 11],[(10,dE),(11,dE)]⟩) (.t (.x [] ⟨[ai 10,ai 11,(27,.v .bool)],[(10,dE),(11,dE)]⟩) .l .l) (.n (.t (.x [] ⟨[ai 10,ai 11,aT 13],[(10,dE),(11,dE)]⟩) (.n (.t .none (.n (.t (.x [6,13] ⟨[ai 10,ai 11,(42,.v .bool)],[(10,dE),(11,dE)]⟩) .l .l)) .l)) (.t (.x [13] ⟨[ai 10,ai 11,(15,.v .bool)],[(10,dE),(11,dE)]⟩) .l (.t (.x [] ⟨[ai 10,ai 11],[(10,dE),(11,dE)]⟩) (.n (.t .none (.d [.b [354],.a,.a,.c [354] [352]]) .l)) .l))))))))) func212 call212 [(6,gb),(10,bo),(11,bo),(14,bo)]
def Pu:aF:=⟨213,[.v bo],[aE,.bool],At⟩
theorem XI:aD E Pu:=
 .q (ao BP aJ) (.k [0] (.n (.n (.n (.n (.t .none (.n (.o (.p ⟨[ai 1,(4,.v bD),aT 5],[(1,dE)]⟩ (.x 0 ⟨[ai 1,(4,.v bD)],[(1,dE)]⟩) .l))) .l)))))) func213 call213
def Og:aF:=⟨141,[.v .bool,.v bo,.v aE,.v .bool,.v aE],[bD],AF⟩
theorem W4:aD E Og:=
 .q (ao Fy (ao K8 (ao XI (ao XH (ao XG (ao KT aJ)))))) (.k [0,1,2,3,4] (.n (.n (.n (.n (.n (.t (.x [12] ⟨[ai 13],[(13,dE)]⟩) .l (.n (.t (.x [] ⟨[aT 12,aT 14],[]⟩) .l (.t (.bw [14] ⟨[],[]⟩) (.o (.t (.x [12] ⟨[(54,.v .bool)],[]⟩) .l .l)) .l)))))))))) func141 call141 [(6,gb),(13,bo)]
def Rc:aF:=⟨81,[.v bv,.v aE],[bD],w9⟩
theorem Lv:aD E Rc:=
 .q (ao Fz (ao Fw (ao Fv (ao W4 aJ)))) (.k [0,1] (.n (.n (.n (.n (.t .none (.d [.b [66,72],.b [72,74],.b [74],.b [66,72],.b [72],.a,.b [66,76],.b [76],.a,.a,.a]) .l)))))) func81 call81
def QT:aF:=⟨52,[.v aE,.v aE],[bD],sy⟩
theorem Lm:aD E QT:=
 .q (ao Lv (ao KK aJ)) (.k [0,1] .l) func52 call52
def O8:aF:=⟨192,[.v aE,.v aE,.v aE],[.bool],Aa⟩
theorem Xt:aD E O8:=
 .q aJ (.k [0,1,2] .l) func192 call192
def Qn:aF:=⟨269,[.v aE],[.bool],qz⟩
theorem Lj:aD E Qn:=
 .q aJ (.k [0] .l) func269 call269
def PP:aF:=⟨234,[.v aE,.v aE],[.bool],sl⟩
theorem Fm:aD E PP:=
 .q (ao Lj aJ) (.k [0,1] .l) func234 call234
def PX:aF:=⟨242,[.v eA],[.bool],Ag⟩
theorem XU:aD E PX:=
 .q (ao Fm aJ) (.k [0] (.n (.t .none (.n (.o (.p ⟨[aT 3],[]⟩ (.bw 0 ⟨[],[]⟩) .l))) .l))) func242 call242
def O9:aF:=⟨193,[.v hV],[.bool],z7⟩
theorem Xu:aD E O9:=
 .q (ao XU aJ) (.k [0] (.n (.t (.bw [1] ⟨[],[]⟩) .l (.t .none (.n (.o (.k [1,49] (.p ⟨[aT 50],[]⟩ (.bw 0 ⟨[],[]⟩) (.n (.n (.t .none (.o (.n (.n (.n (.o (.k [50,66,67] (.p ⟨[aT 4,aT 68],[]⟩ (.bw 2 ⟨[],[]⟩) (.n (.n (.t (.bw [68] ⟨[aT 4],[]⟩) (.o (.n (.t (.bw [6] ⟨[],[]⟩) .l .l))) .l)))))))))) .l))))))) .l)))) func193 call193 [(1,kE)]
def Oh:aF:=⟨142,[.v bD],[aE,bD],uu⟩
theorem Ff:aD E Oh:=
 .q aJ (.k [0] .l) func142 call142
def Rd:aF:=⟨84,[.v bD],[.bool],qB⟩
theorem Fu:aD E Rd:=
 .q (ao Ff aJ) (.k [0] .l) func84 call84
def Pb:aF:=⟨195,[.v bD],[.bool],Dy⟩
theorem Xw:aD E Pb:=
 .q (ao Fu aJ) (.k [0] .l) func195 call195
def PY:aF:=⟨243,[.v jP,.c 195 []],[aE],DA⟩
theorem XV:aD E PY:=
 .q (ao Xw aJ) (.k [0,1] (.n (.t .none (.n (.o (.k [7] (.p ⟨[aT 8],[]⟩ (.bw 0 ⟨[],[]⟩) .l)))) .l))) func243 call243
def Pa:aF:=⟨194,[.v jP,.c 195 []],[.bool],Ac⟩
theorem Xv:aD E Pa:=
 .q (ao XV aJ) (.k [0,1] .l) func194 call194
def NY:aF:=⟨121,[.v hV],[aE],qE⟩
theorem BN:aD E NY:=
 .q (ao Xu (ao Xt (ao Xv aJ))) (.k [0] (.n (.t .none (.o (.t (.x [1] ⟨[(3,.v .bool)],[]⟩) .l .l)) .l))) func121 call121 [(1,kE)]
def NZ:aF:=⟨122,[.v eA,.v aE],[bO,.bool],AR⟩
theorem WT:aD E NZ:=
 .q aJ (.k [0,1] (.n (.n (.n (.n (.t .none (.n (.o (.k [18,19] (.p ⟨[ai 6,ai 7,aT 20],[(6,bO),(7,g8)]⟩ (.bw 0 ⟨[ai 6],[(6,bO)]⟩) (.n (.n (.t (.bw [20] ⟨[ai 6,ai 7],[(6,bO),(7,g8)]⟩) (.o (.n (.t (.bw [8,9] ⟨[ai 6,ai 7],[(6,bO),(7,g8)]⟩) (.t (.x [] ⟨[ai 6,ai 7,(37,.v .bool)],[(6,bO),(7,g8)]⟩) .l .l) .l))) .l))))))) .l)))))) func122 call122 [(15,bO),(17,g8),(4,bO)]
def Pc:aF:=⟨196,[.v hV],[eI],uE⟩
theorem K2:aD E Pc:=
 .q aJ (.k [0] (.n (.n (.t .none (.n (.o (.k [1,7] (.p ⟨[ai 3,aT 8],[(3,eI)]⟩ (.x 0 ⟨[ai 3],[(3,eI)]⟩) (.n (.n (.t .none (.o (.n (.n (.o (.k [4,8] (.p ⟨[ai 3,aT 5],[(3,eI)]⟩ (.x 2 ⟨[ai 3],[(3,eI)]⟩) (.n (.t .none (.o (.d [.b [97],.a,.a,.a,.a,.a,.a,.a,.a,.a,.a,.a,.a,.c [1250] [1248],.c [98,1250,1282] [96,1280,97,1281],.c [98,1282] [96,1280,97,1281]])) .l)))))))) .l))))))) .l)))) func196 call196 [(1,kE),(3,eI)]
def Qo:aF:=⟨270,[.v (.a6 .dk kj)],[eI],Dz⟩
theorem Yf:aD E Qo:=
 .q aJ (.k [0] .l) func270 call270 [(2,eI)]
def Qi:aF:=⟨264,[.v aE,.v aE],[aE],uo⟩
theorem Li:aD E Qi:=
 .q (ao Lj aJ) (.k [0,1] .l) func264 call264
def Qr:aF:=⟨273,[.v eA],[aE],zq⟩
theorem Yi:aD E Qr:=
 .q aJ (.k [0] (.n (.n (.t .none (.n (.o (.k [3,6,7] (.p ⟨[aT 8],[]⟩ (.bw 0 ⟨[],[]⟩) .l)))) .l)))) func273 call273
def Qq:aF:=⟨272,[.v kj,.v kj],[aE],z9⟩
theorem Yh:aD E Qq:=
 .q (ao Yi (ao Li aJ)) (.k [0,1] (.n (.t .none (.d [.a,.a,.a,.a,.a,.a,.a,.a,.a,.a,.c [482] [480],.b [482],.a]) .l))) func272 call272 [(2,(.ptr .bx kj)),(3,(.ptr .bx kj))]
def QI:aF:=⟨297,[.m eI,.v aE,.v aE,.c 272 []],[],wY⟩
theorem Yy:aD E QI:=
 .q (ao Yh aJ) (.k [1,2,3] (.n (.o (.p ⟨[ai 0,aT 8],[(0,eI)]⟩ (.x 0 ⟨[ai 0],[(0,eI)]⟩) (.n (.t .none (.o (.n (.o (.k [8] (.p ⟨[ai 0,aT 9],[(0,eI)]⟩ (.x 2 ⟨[ai 0],[(0,eI)]⟩) (.t (.bw [9] ⟨[ai 0],[(0,eI)]⟩) (.t .none (.d [.a,.a,.a,.a,.a,.b [1],.a,.b [0,2],.b [0],.b [1],.a,.a,.b [0,2],.b [0],.a,.a,.a]) .l) (.t .none (.o (.d [.b [1],.a,.b [1],.a,.a,.b [1],.a,.a,.b [0,2],.b [0],.b [1],.a,.b [0,2],.b [0],.b [0,2],.c [0] [0],.b [0,2],.c [0] [0]])) .l))))))) .l)))))) func297 call297
def QA:aF:=⟨287,[.m eI,.v aE,.c 272 []],[],DG⟩
theorem Yq:aD E QA:=
 .q (ao Yy aJ) (.k [1,2] (.n (.n (.t .none (.o (.k [6] (.p ⟨[ai 0,aT 7,aT 8],[(0,eI)]⟩ (.x 0 ⟨[ai 0,aT 7],[(0,eI)]⟩) .l))) (.n (.o (.p ⟨[ai 0,aT 6],[(0,eI)]⟩ (.x 2 ⟨[ai 0],[(0,eI)]⟩) (.n (.o (.t .none (.z [777777] .l) .l)))))))))) func287 call287
def Qp:aF:=⟨271,[.m eI,.c 272 []],[],DF⟩
theorem Yg:aD E Qp:=
 .q (ao Yq aJ) (.k [1] .l) func271 call271
def PZ:aF:=⟨244,[.v (.a6 .dk kj)],[eI],z8⟩
theorem XW:aD E PZ:=
 .q (ao Yf (ao Yg aJ)) .l func244 call244
def Pd:aF:=⟨197,[.v aE,.v aE,.v (.a6 .dk kj)],[js],z6⟩
theorem Xx:aD E Pd:=
 .q (ao XW aJ) (.k [0,1,2] (.n (.n (.t .none (.n (.o (.k [19] (.p ⟨[ai 6,ai 7,ai 18,aT 20],[(6,dL),(7,dL),(18,eI)]⟩ (.x 0 ⟨[ai 6,ai 7],[(6,dL),(7,dL)]⟩) (.n (.n (.t .none (.o (.n (.t .none (.d [.b [226,240],.b [240],.b [290,292],.b [292],.c [898] [896],.c [928,898,240,242] [928,227,245,247],.b [226,244],.b [244],.b [290,300],.b [300],.c [1090] [1088],.c [1120,1090,244,246] [1120,227,241,243],.b [226,240],.c [928,240,242] [224,928,929],.b [226,244],.c [1120,244,246] [224,1120,1121]]) .l))) .l))))))) (.t .none (.n (.o (.k [48] (.p ⟨[ai 6,ai 7,aT 49],[(6,dL),(7,dL)]⟩ (.x 2 ⟨[ai 6,ai 7],[(6,dL),(7,dL)]⟩) (.n (.n (.t .none (.o (.n (.d [.b [226,236],.b [236],.a,.a,.b [236,238],.b [238],.b [226,236],.b [236],.a,.b [236,238],.b [238],.a,.b [236,238],.c [238] [224]]))) .l))))))) .l))))) func197 call197 [(6,js),(15,bO),(16,js),(7,js),(9,kj)]
def N0:aF:=⟨123,[.v hV],[kk,aE],z5⟩
theorem WU:aD E N0:=
 .q (ao Xx (ao K2 (ao BN aJ))) (.k [0] (.n (.n (.n (.n (.t .none (.n (.o (.k [1,16] (.p ⟨[ai 2,ai 5,ai 15,aT 17],[(2,(.optr kk)),(5,eI),(15,eI)]⟩ (.x 0 ⟨[ai 2,ai 5],[(2,(.optr kk)),(5,eI)]⟩) (.n (.n (.t (.x [17] ⟨[ai 2,ai 5,ai 15],[(2,(.optr kk)),(5,eI),(15,eI)]⟩) .l .l))))))) .l)))))) func123 call123 [(1,kE),(2,kk),(5,eI),(7,kj)] [(999999,36)]
def Pe:aF:=⟨198,[.v aE],[dW],wN⟩
theorem K3:aD E Pe:=
 .q aJ (.k [0] (.n (.n (.t .none (.n (.o (.k [8] (.p ⟨[ai 3,aT 9],[(3,dW)]⟩ (.x 0 ⟨[ai 3],[(3,dW)]⟩) .l)))) .l)))) func198 call198 [(6,dW),(15,g8)]
def Pf:aF:=⟨199,[.v hV],[eI],z2⟩
theorem Xy:aD E Pf:=
 .q (ao K2 (ao BN aJ)) (.k [0] .l) func199 call199 [(1,kE),(2,eI)]
def Ph:aF:=⟨200,[.m dW,.v aE,.v aE],[],wQ⟩
theorem K5:aD E Ph:=
 .q aJ (.k [1,2] (.n (.t .none (.d [.b [1],.a,.b [0,2],.b [0],.a,.b [1],.a,.b [0,2],.b [0],.a,.b [0],.c [0] [0],.b [0],.c [0] [0]]) .l))) func200 call200
def P0:aF:=⟨245,[.v (.a6 .dk (.a6 .dk .bool)),.v aE],[bO],zM⟩
theorem XX:aD E P0:=
 .q aJ (.k [0,1] (.n (.n (.t .none (.n (.o (.k [11,12] (.p ⟨[ai 5,aT 13],[(5,bO)]⟩ (.x 0 ⟨[ai 5],[(5,bO)]⟩) (.n (.n (.t (.x [13] ⟨[ai 5],[(5,bO)]⟩) .l .l))))))) .l)))) func245 call245 [(5,bO)]
def Pj:aF:=⟨201,[.v (.a6 .dk (.a6 .dk .bool))],[h8],wP⟩
theorem K6:aD E Pj:=
 .q (ao XX aJ) (.k [0] (.n (.n (.t .none (.n (.o (.k [10] (.p ⟨[ai 2,ai 3,aT 11],[(2,(.optr h8)),(3,(.optr h8))]⟩ (.x 0 ⟨[ai 2,ai 3],[(2,(.optr h8)),(3,(.optr h8))]⟩) (.n (.n (.t .none (.o (.n (.d [.b [98,100],.b [100],.a,.a,.a,.c [610] [608],.b [100,102],.c [610,102] [96,608,609]]))) .l))))))) .l)))) func201 call201 [(2,h8),(7,(.osl fg)),(3,h8)] [(999999,19)]
def N1:aF:=⟨124,[.v hV],[fQ,aE],wM⟩
theorem WV:aD E N1:=
 .q (ao K6 (ao K5 (ao Xy (ao K3 (ao BN aJ))))) (.k [0] (.n (.n (.n (.n (.t .none (.n (.o (.k [27] (.p ⟨[ai 2,ai 5,ai 26,aT 28],[(2,(.optr fQ)),(5,dW),(26,eI)]⟩ (.x 1 ⟨[ai 2,ai 5],[(2,(.optr fQ)),(5,dW)]⟩) .l)))) .l)))))) func124 call124 [(1,kE),(2,fQ),(7,kj)] [(999999,40)]
def PK:aF:=⟨230,[.v eA,.v aE],[.bool],zN⟩
theorem XL:aD E PK:=
 .q aJ (.k [0,1] (.n (.n (.t .none (.n (.o (.k [8,9] (.p ⟨[aT 5,aT 10],[]⟩ (.bw 0 ⟨[],[]⟩) (.n (.n (.t (.bw [10] ⟨[aT 5],[]⟩) (.o (.n (.t (.bw [7] ⟨[],[]⟩) .l .l))) .l))))))) .l)))) func230 call230
def PQ:aF:=⟨235,[.v aE],[.bool],Aj⟩
theorem XP:aD E PQ:=
 .q aJ (.k [0] .l) func235 call235
def O1:aF:=⟨185,[.v eA,.v aE],[aE,.bool],ss⟩
theorem Fk:aD E O1:=
 .q (ao XP (ao Fm aJ)) (.k [0,1] (.n (.n (.n (.t .none (.o (.k [6] (.p ⟨[aT 7,aT 8],[]⟩ (.x 0 ⟨[aT 7],[]⟩) .l))) .l))))) func185 call185
def PL:aF:=⟨231,[.v jr,.v aE,.v aE],[.bool],uw⟩
theorem Le:aD E PL:=
 .q (ao Fk aJ) (.k [0,1,2] .l) func231 call231 [(3,i7)]
def OS:aF:=⟨178,[.v jr],[aE],uv⟩
theorem Fj:aD E OS:=
 .q (ao Le (ao XL aJ)) (.k [0] (.n (.n (.n (.t .none (.n (.o (.k [1,3,16,17] (.p ⟨[aT 18],[]⟩ (.bw 0 ⟨[],[]⟩) (.n (.n (.t (.bw [18] ⟨[],[]⟩) .l .l))))))) (.t .none (.n (.o (.k [1,35,36] (.p ⟨[aT 37],[]⟩ (.bw 2 ⟨[],[]⟩) (.n (.n (.t .none (.o (.n (.n (.o (.k [6,37,42,43] (.p ⟨[aT 44],[]⟩ (.bw 4 ⟨[],[]⟩) .l)))))) .l))))))) .l)))))) func178 call178 [(1,i7)]
def P3:aF:=⟨248,[.v jr,.v aE],[.bool],zQ⟩
theorem X0:aD E P3:=
 .q aJ (.k [0,1] .l) func248 call248 [(2,i7)]
def QN:aF:=⟨311,[.v bD],[aE],Ip⟩
theorem YD:aD E QN:=
 .q aJ (.n (.t (.x [] ⟨[(0,.v bD),aT 2],[]⟩) .l (.t (.x [] ⟨[(0,.v bD),aT 2],[]⟩) .l (.t (.x [] ⟨[(0,.v bD),aT 2],[]⟩) .l .l)))) func311 call311
def QL:aF:=⟨301,[.v bD],[aE],Dw⟩
theorem YB:aD E QL:=
 .q (ao YD aJ) (.k [0] .l) func301 call301
def QM:aF:=⟨303,[.m bO,.v aE,.v aE],[],Ai⟩
theorem YC:aD E QM:=
 .q (ao Fm aJ) (.k [1,2] (.n (.o (.p ⟨[ai 0,aT 6],[(0,bO)]⟩ (.x 0 ⟨[ai 0],[(0,bO)]⟩) (.n (.t .none (.o (.n (.o (.k [6] (.p ⟨[ai 0,aT 7],[(0,bO)]⟩ (.x 2 ⟨[ai 0],[(0,bO)]⟩) (.t (.bw [7] ⟨[ai 0],[(0,bO)]⟩) (.t .none (.d [.a,.a,.a,.a,.b [1],.a,.b [0,2],.b [0],.b [1],.a,.a,.b [0,2],.b [0],.a,.a]) .l) (.t .none (.o (.d [.b [1],.a,.b [1],.a,.a,.b [1],.a,.a,.b [0,2],.b [0],.b [1],.a,.b [0,2],.b [0],.b [0,2],.c [0] [0],.b [0,2],.c [0] [0]])) .l))))))) .l)))))) func303 call303
def QK:aF:=⟨300,[.m bO,.v aE,.v aE,.v aE],[],Ak⟩
theorem YA:aD E QK:=
 .q (ao YC aJ) (.n (.n (.o (.p ⟨[ai 0,aT 1,aT 2,aT 3,(8,.v .bool),(9,.v .bool)],[(0,bO)]⟩ .r (.o (.n (.n (.t .none (.t .none (.z [777777] .l) .l) .l)))))))) func300 call300
def QB:aF:=⟨289,[.m bO],[],wX⟩
theorem Yr:aD E QB:=
 .q (ao YB (ao YA aJ)) .l func289 call289
def P4:aF:=⟨249,[.v eA],[.bool],zP⟩
theorem X1:aD E P4:=G9.aa0 rfl (sort:=λd=>(wX (d,())).map λa=>a.1) (λe f b=>by obtain⟨a,c,rfl⟩:=eb.1 b;exact Yr.2 (e,()) a c)
def P2:aF:=⟨247,[.v aE,.v i7],[.bool],Du⟩
theorem XZ:aD E P2:=
 .q (ao X0 aJ) (.k [0,1] .l) func247 call247
def Qs:aF:=⟨274,[.v eA,.c 247 [i7]],[aE],DD⟩
theorem Yj:aD E Qs:=
 .q (ao XZ aJ) (.k [0,1] (.n (.t .none (.n (.o (.k [7] (.p ⟨[aT 8],[]⟩ (.bw 0 ⟨[],[]⟩) .l)))) .l))) func274 call274
def P1:aF:=⟨246,[.v eA,.c 247 [i7]],[.bool],Af⟩
theorem XY:aD E P1:=
 .q (ao Yj aJ) (.k [0,1] .l) func246 call246
def Pk:aF:=⟨202,[.v jr,.v eA],[aE],zL⟩
theorem XA:aD E Pk:=
 .q (ao X1 (ao Fj (ao XY aJ))) (.k [0,1] .l) func202 call202 [(2,i7)]
def Pl:aF:=⟨203,[.v jr,.v eA],[fQ],zO⟩
theorem XB:aD E Pl:=
 .q (ao Le (ao K6 (ao K5 (ao K3 aJ)))) (.k [0,1] (.n (.n (.t .none (.n (.o (.k [2,13,14] (.p ⟨[ai 4,ai 5,aT 15],[(4,(.optr fQ)),(5,dW)]⟩ (.x 0 ⟨[ai 4,ai 5],[(4,(.optr fQ)),(5,dW)]⟩) (.n (.n (.t .none (.o (.n (.n (.o (.k [6,7,15,22,23] (.p ⟨[ai 4,ai 5,aT 24],[(4,(.optr fQ)),(5,dW)]⟩ (.x 2 ⟨[ai 4,ai 5],[(4,(.optr fQ)),(5,dW)]⟩) (.n (.n (.t (.x [24] ⟨[ai 4,ai 5],[(4,(.optr fQ)),(5,dW)]⟩) .l .l))))))))) .l))))))) .l)))) func203 call203 [(2,i7),(4,fQ)] [(999999,40)]
def N2:aF:=⟨125,[.v jr,.v eA],[fQ,aE],wO⟩
theorem WW:aD E N2:=
 .q (ao XB (ao XA aJ)) (.k [0,1] .l) func125 call125 [(2,i7),(4,fQ)]
def PA:aF:=⟨219,[.v dD],[dD],gR⟩
theorem j7:aD E PA:=
 .q aJ (.k [0] (.n (.n (.t .none (.o (.p ⟨[aT 3],[]⟩ (.x 0 ⟨[aT 3],[]⟩) (.t (.bw [3] ⟨[],[]⟩) .l .l))) .l)))) func219 call219
def PB:aF:=⟨220,[.v .bool,.v dD],[bo],jV⟩
theorem pO:aD E PB:=
 .q (ao j7 aJ) (.k [0] .l) func220 call220 [(4,bo)]
def Ok:aF:=⟨145,[.v aE],[bo],uy⟩
theorem Fg:aD E Ok:=
 .q (ao pO aJ) (.k [0] (.n (.n (.t (.x [] ⟨[ai 2,(3,.v bD)],[(2,dE)]⟩) .l .l)))) func145 call145 [(2,bo)] [(19,18)]
def Ol:aF:=⟨146,[.v bD],[.bool],zI⟩
theorem W5:aD E Ol:=
 .q aJ (.k [0] .l) func146 call146
def PC:aF:=⟨221,[.v dD],[da],su⟩
theorem BS:aD E PC:=
 .q aJ (.k [0] .l) func221 call221 [(2,da)]
def Om:aF:=⟨147,[.v bo],[bo],qD⟩
theorem Fh:aD E Om:=
 .q (ao BS (ao pO aJ)) (.k [0] (.n (.t .none (.d [.a,.a,.a,.a,.a,.c [258] [256],.c [258] [256,257],.c [66] [64]]) .l))) func147 call147 [(1,gb),(2,bo)] [(9,8)]
def OI:aF:=⟨167,[],[bv],us⟩
theorem BQ:aD E OI:=
 .q aJ .l func167 call167 [(0,bv)]
def Pw:aF:=⟨215,[.v bo],[bo],zT⟩
theorem XJ:aD E Pw:=
 .q (ao BS (ao pO aJ)) (.k [0] (.n (.t .none (.d [.a,.a,.a,.a,.c [226] [224],.c [226] [224,225],.c [66] [64]]) .l))) func215 call215 [(1,gb),(2,bo)] [(8,7)]
def Oj:aF:=⟨144,[.v bo],[aE],nk⟩
theorem td:aD E Oj:=
 .q (ao j7 aJ) (.k [0] .l) func144 call144 [(1,gb)]
def Px:aF:=⟨216,[.v bo],[aE],wT⟩
theorem K9:aD E Px:=
 .q (ao Lb aJ) (.k [0] (.n (.t .none (.n (.o (.k [6,7] (.p ⟨[aT 8],[]⟩ (.bw 0 ⟨[],[]⟩) .l)))) .l))) func216 call216 [(1,gb)]
def Qh:aF:=⟨263,[.v dD],[aE],uA⟩
theorem Lh:aD E Qh:=
 .q (ao Fl aJ) (.k [0] .l) func263 call263
def Py:aF:=⟨217,[.v bo],[aE],pq⟩
theorem x5:aD E Py:=
 .q (ao Lh (ao j7 aJ)) (.k [0] .l) func217 call217 [(1,gb)]
def Qk:aF:=⟨266,[.v dD,.v aE],[dD],sr⟩
theorem Fp:aD E Qk:=
 .q (ao j7 aJ) (.k [0,1] (.n (.n (.n (.n (.t .none (.n (.o (.k [5,6,25,26] (.p ⟨[ai 7,aT 27],[(7,da)]⟩ (.x 0 ⟨[ai 7],[(7,da)]⟩) .l)))) (.t .none (.z [7] .l) .l))))))) func266 call266 [(24,da)]
def Qy:aF:=⟨284,[.v ei],[.bool],Dv⟩
theorem Yo:aD E Qy:=
 .q aJ (.k [0] .l) func284 call284
def QH:aF:=⟨296,[.v dD,.c 284 []],[aE],DE⟩
theorem Yx:aD E QH:=
 .q (ao Yo aJ) (.k [0,1] (.n (.t .none (.n (.o (.k [7] (.p ⟨[aT 8],[]⟩ (.bw 0 ⟨[],[]⟩) .l)))) .l))) func296 call296
def Qx:aF:=⟨283,[.v dD,.c 284 []],[.bool],wW⟩
theorem Yn:aD E Qx:=
 .q (ao Yx aJ) (.k [0,1] .l) func283 call283
def Ql:aF:=⟨267,[.v dD,.v aE],[dD,.bool],uz⟩
theorem Fq:aD E Ql:=
 .q (ao j7 (ao Yn aJ)) (.k [0,1] (.n (.n (.n (.t (.x [6,7] ⟨[(8,.v .bool)],[]⟩) .l (.n (.t .none (.n (.o (.k [6,7,8,45] (.p ⟨[ai 9,aT 46],[(9,da)]⟩ (.x 0 ⟨[ai 9],[(9,da)]⟩) (.n (.n (.t (.x [46] ⟨[ai 9],[(9,da)]⟩) (.o (.n (.n (.t (.x [10] ⟨[ai 9,(11,.v bD)],[(9,da)]⟩) .l .l)))) .l))))))) (.t .none (.z [9] .l) .l)))))))) func267 call267 [(43,da)]
def PG:aF:=⟨225,[.v dD,.v dD],[dD],sq⟩
theorem BT:aD E PG:=
 .q (ao j7 aJ) (.n (.t (.x [] ⟨[(0,.v dD),(1,.v dD)],[]⟩) .l (.n (.n (.t .none (.n (.o (.k [1,21,22] (.p ⟨[ai 5,(6,.v bD),aT 23],[(5,da)]⟩ (.x 0 ⟨[ai 5,(6,.v bD)],[(5,da)]⟩) (.n (.n (.t (.x [23] ⟨[ai 5,(6,.v bD)],[(5,da)]⟩) (.o (.n (.n (.t (.x [] ⟨[ai 5,(9,.v bD)],[(5,da)]⟩) .l .l)))) .l))))))) .l))))) func225 call225 [(20,da)] [(57,56)]
def PJ:aF:=⟨228,[.v bo,.v aE],[bo,aE],pt⟩
theorem Ld:aD E PJ:=
 .q (ao Fq (ao Fp (ao BT (ao pO (ao j7 aJ))))) (.k [0,1] (.n (.t (.bw [2] ⟨[ai 4],[(4,dE)]⟩) (.t (.x [] ⟨[ai 4,(14,.v .bool)],[(4,dE)]⟩) .l .l) (.n (.t .none (.n (.t .none (.t .none (.d [.a,.a,.a,.a,.a,.a,.c [130] [128],.a]) .l) .l)) (.n (.t (.x [2] ⟨[ai 4,(7,.v dD)],[(4,dE)]⟩) (.t (.x [7] ⟨[ai 4,(38,.v .bool)],[(4,dE)]⟩) .l .l) .l))))))) func228 call228 [(2,gb),(4,bo)] [(41,40)]
def Pz:aF:=⟨218,[.v bo,.v aE],[bo],wG⟩
theorem La:aD E Pz:=
 .q (ao Ld aJ) (.k [0] (.n (.t .none (.o (.p ⟨[aT 1,ai 2,ai 4],[(2,dE),(4,dE)]⟩ (.x 0 ⟨[aT 1,ai 2,ai 4],[(2,dE),(4,dE)]⟩) .l)) .l))) func218 call218 [(4,bo)]
def Oi:aF:=⟨143,[.v bv],[bv,.bool],mB⟩
theorem tc:aD E Oi:=
 .q (ao La (ao x5 (ao K9 (ao XJ (ao BQ (ao td aJ)))))) (.k [0] (.n (.n (.n (.n (.n (.t (.bw [1,5] ⟨[ai 2,ai 4],[(2,g3),(4,dE)]⟩) (.t (.x [] ⟨[ai 2,ai 4,(30,.v .bool)],[(2,g3),(4,dE)]⟩) (.d [.a,.a,.b [130],.a,.a,.a,.a,.a,.a,.a,.a,.a,.a]) .l) (.t .none (.d [.b [130],.a,.a,.a,.a,.a,.a,.a,.c [66] [64],.a]) .l)))))))) func143 call143 [(1,nX),(2,bv),(4,bo)]
def On:aF:=⟨148,[.v bo,.v aE],[bv],sm⟩
theorem BO:aD E On:=
 .q (ao tc aJ) (.k [0,1] .l) func148 call148 [(2,gb),(4,bv),(5,bv)]
def Rf:aF:=⟨86,[.v bD],[bv],pp⟩
theorem BY:aD E Rf:=
 .q (ao BO (ao Fh (ao W5 (ao Fg (ao Ff aJ))))) (.k [0] (.n (.n (.t (.bw [] ⟨[ai 2,aT 3,(4,.v bD)],[(2,g3)]⟩) .l (.n (.t (.x [3] ⟨[ai 2,ai 5],[(2,g3),(5,dE)]⟩) .l .l)))))) func86 call86 [(2,bv),(5,bo)]
def QW:aF:=⟨55,[.v hV,.v eA],[(.ptr .bx (.st (.pr aE (.pr fQ (.pr (.a6 .bx (.dJ .bx bv)) .nil))))),aE],qK⟩
theorem Lo:aD E QW:=
 .q (ao BY (ao WW (ao WV (ao WU (ao WT (ao BN aJ)))))) (.k [0,1] (.n (.n (.n (.n (.n (.n (.n (.n (.t .none (.d [.b [66,72],.b [72],.b [354],.b [66,72],.b [72],.c [1922] [1920],.c [1922,1954] [1920,1952,1921],.c [1954,1986] [1952,1984,1953],.c [418,1986] [416,1984,417,1985]]) (.t .none (.n (.o (.k [7,67] (.p ⟨[ai 2,ai 13,aT 68],[(2,(.optr hV)),(13,r5)]⟩ (.x 0 ⟨[ai 2,ai 13],[(2,(.optr hV)),(13,r5)]⟩) .l)))) (.t .none (.n (.o (.k [7,80] (.p ⟨[ai 2,ai 13,aT 81],[(2,(.optr hV)),(13,r5)]⟩ (.x 2 ⟨[ai 13],[(13,r5)]⟩) (.n (.n (.t .none (.o (.n (.n (.o (.k [15,81] (.p ⟨[ai 2,ai 13,aT 16],[(2,(.optr hV)),(13,r5)]⟩ (.x 4 ⟨[ai 2,ai 13],[(2,(.optr hV)),(13,r5)]⟩) (.n (.t (.x [16] ⟨[ai 2,ai 13],[(2,(.optr hV)),(13,r5)]⟩) (.o (.n (.n (.t .none (.n (.d [.b [417],.b [418],.b [418,428],.b [428],.a,.a,.a,.b [428,430],.b [430],.a,.a,.a,.b [66,84],.b [84],.a,.a,.a,.a,.c [430] [416]])) .l)))) .l)))))))) .l))))))) (.t .none (.z [13] .l) .l))))))))))))) func55 call55 [(4,(.ptr .bx (.st (.pr aE (.pr fQ (.pr (.a6 .bx (.dJ .bx bv)) .nil)))))),(7,fg),(9,kk),(11,fQ),(60,(.osl (.mp bv))),(76,(.mp bv))] [(7,35000)]
def P6:aF:=⟨250,[.v aE],[ms],zH⟩
theorem X3:aD E P6:=
 .q aJ (.k [0] (.n (.t .none (.d [.a,.c [194] [192],.a,.c [258] [256],.c [194,258,290] [192,256,288,193,257],.c [290,322] [288,320,289],.c [98,322] [96,320,97,321]]) (.t .none (.n (.o (.k [11] (.p ⟨[ai 3,aT 12],[(3,ms)]⟩ (.x 0 ⟨[ai 3],[(3,ms)]⟩) (.n (.n (.t .none (.o (.n (.d [.b [97],.b [98],.b [98,100],.b [100],.a,.b [97],.b [98],.b [98,104],.b [104],.a,.b [100,102],.c [102] [96],.b [104,106],.c [106] [96]]))) .l))))))) .l)))) func250 call250 [(6,bO),(8,bO)]
def P7:aF:=⟨251,[.m ms,.v aE,.v aE],[],zG⟩
theorem X4:aD E P7:=
 .q aJ (.k [2] (.o (.p ⟨[ai 0,aT 1],[(0,ms)]⟩ (.x 0 ⟨[ai 0],[(0,ms)]⟩) (.t (.bw [1] ⟨[ai 0],[(0,ms)]⟩) .l (.o (.n (.n (.t (.x [6] ⟨[ai 0],[(0,ms)]⟩) .l .l)))))))) func251 call251
def Pm:aF:=⟨204,[.v jr],[bO,aE],zF⟩
theorem XC:aD E Pm:=
 .q (ao X4 (ao X3 (ao Fj aJ))) (.k [0] (.n (.n (.n (.n (.t .none (.n (.o (.k [20,21] (.p ⟨[ai 5,aT 22],[(5,ms)]⟩ (.x 0 ⟨[ai 5],[(5,ms)]⟩) (.n (.n (.t .none (.o (.n (.n (.o (.k [6,22,27,28] (.p ⟨[ai 5,aT 29],[(5,ms)]⟩ (.x 2 ⟨[ai 5],[(5,ms)]⟩) .l)))))) .l))))))) .l)))))) func204 call204 [(1,i7),(2,bO)]
def Pn:aF:=⟨205,[.v jr,.v eA,.v aE],[bO],AQ⟩
theorem XD:aD E Pn:=
 .q aJ (.k [0,1,2] (.n (.n (.n (.t .none (.n (.o (.k [23,24] (.p ⟨[ai 7,aT 25],[(7,g8)]⟩ (.x 0 ⟨[ai 7],[(7,g8)]⟩) (.n (.n (.t .none (.o (.n (.o (.k [25] (.p ⟨[ai 7,aT 9],[(7,g8)]⟩ (.x 2 ⟨[ai 7],[(7,g8)]⟩) (.t (.bw [9] ⟨[ai 7],[(7,g8)]⟩) .l .l)))))) .l))))))) (.n (.t .none (.n (.o (.k [52] (.p ⟨[ai 10,(51,.s (.ref 7 [])),aT 53],[(7,g8),(10,bO)]⟩ (.x 4 ⟨[ai 10],[(10,bO)]⟩) (.n (.n (.t (.x [53] ⟨[ai 10,(51,.s (.ref 7 []))],[(7,g8),(10,bO)]⟩) .l .l))))))) .l))))))) func205 call205 [(3,i7),(15,g8),(10,bO)]
def N3:aF:=⟨126,[.v jr],[(.osl bO),aE],AP⟩
theorem WX:aD E N3:=
 .q (ao XD (ao XC aJ)) (.k [0] (.n (.n (.n (.n (.t .none (.n (.o (.k [1,4,22] (.p ⟨[ai 6,aT 23],[(6,(.osl bO))]⟩ (.x 0 ⟨[ai 6],[(6,(.osl bO))]⟩) (.n (.n (.t .none (.o (.n (.n (.o (.k [7,23,30] (.p ⟨[ai 6,ai 29,aT 31],[(6,(.osl bO)),(29,bO)]⟩ (.x 2 ⟨[ai 6],[(6,(.osl bO))]⟩) .l)))))) .l))))))) .l)))))) func126 call126 [(1,i7),(4,fg),(20,(.osl bO)),(2,(.osl bO))] [(4,13000)]
def QX:aF:=⟨56,[.v wc],[i9],wy⟩
theorem Lp:aD E QX:=
 .q (ao WX aJ) (.k [0] (.n (.n (.t .none (.d [.a,.a,.a,.a,.a,.c [738] [736],.a,.a,.a,.a,.c [898] [896],.a,.a,.a,.a,.c [1058] [1056],.c [738,898,1058,1090] [736,896,1056,1088,737,897,1057],.c [1090,1122] [1088,1120,1089],.c [162,1122] [160,1120,161,1121]]) (.t .none (.n (.o (.k [36,37] (.p ⟨[ai 5,aT 38],[(5,i9)]⟩ (.x 0 ⟨[ai 5],[(5,i9)]⟩) (.n (.n (.t .none (.o (.n (.n (.o (.k [6,38,43,44] (.p ⟨[ai 5,aT 45],[(5,i9)]⟩ (.x 2 ⟨[ai 5],[(5,i9)]⟩) (.n (.n (.t (.x [45] ⟨[ai 5],[(5,i9)]⟩) (.o (.n (.n (.t .none (.d [.b [161],.b [162],.b [162,176],.b [176],.a,.b [161],.b [162],.b [162,176],.b [176],.a,.b [176,178],.b [178],.a,.c [2082] [2080],.c [2112,2082,178] [2112,163,177],.b [176,178],.c [2112,178] [160,2112,2113]]) .l)))) .l))))))))) .l))))))) .l))))) func56 call56 [(23,He),(28,(.osl (.mp bv))),(33,(.osl bO)),(3,(.a6 .bx fg))] [(3,16000)]
def NP:aF:=⟨107,[.v wc,.v aE,.v aE],[bv],xj⟩
theorem KJ:aD E NP:=
 .q aJ (.k [0,1,2] .l) func107 call107 [(6,bv)]
def OH:aF:=⟨166,[.v bv,.v bv],[bv,bv,.bool],wH⟩
theorem KV:aD E OH:=
 .q (ao tc aJ) (.k [0,1] (.n (.n (.n (.t .none (.d [.b [130],.b [162],.a,.a,.a,.a,.c [130] [128],.c [162] [160],.a]) .l))))) func166 call166 [(2,nX),(3,nX),(4,bv),(5,bv)]
def PF:aF:=⟨224,[.v dD,.v dD],[dD],zY⟩
theorem XK:aD E PF:=
 .q (ao j7 aJ) (.k [0,1] (.n (.t (.bw [] ⟨[],[]⟩) .l (.n (.t .none (.n (.o (.k [26,27] (.p ⟨[ai 5,aT 28],[(5,da)]⟩ (.x 0 ⟨[ai 5],[(5,da)]⟩) (.n (.n (.t .none (.o (.n (.n (.t .none (.n (.o (.k [6,7,28,33,34] (.p ⟨[ai 5,(8,.v bD),aT 35],[(5,da)]⟩ (.x 2 ⟨[ai 5,(8,.v bD)],[(5,da)]⟩) .l)))) .l)))) .l))))))) (.t .none (.z [5] .l) .l)))))) func224 call224 [(25,da)]
def OJ:aF:=⟨168,[.v bo,.v bo],[bo],wS⟩
theorem KW:aD E OJ:=
 .q (ao XK (ao pO (ao j7 aJ))) (.k [0,1] (.n (.t .none (.d [.a,.a,.a,.a,.a,.a,.a,.a,.a,.a,.a,.a,.a,.c [130] [128]]) .l))) func168 call168 [(2,gb),(3,gb),(4,bo)]
def NM:aF:=⟨103,[.v bv,.v bv],[bv],wC⟩
theorem KH:aD E NM:=
 .q (ao KW (ao BQ (ao KV (ao BO aJ)))) (.k [0,1] (.n (.n (.n (.t .none (.d [.b [66,72],.b [72],.b [98,104],.b [104],.a,.b [66,76],.b [76],.b [98,108],.b [108],.a,.a,.c [130] [128]]) .l))))) func103 call103 [(4,bv)]
def OP:aF:=⟨173,[.v bv],[bv],wD⟩
theorem KY:aD E OP:=
 .q (ao Fh (ao tc aJ)) (.k [0] (.n (.n (.t (.x [] ⟨[ai 1,ai 2],[(1,g3),(2,g3)]⟩) .l .l)))) func173 call173 [(2,bv)]
def OM:aF:=⟨170,[.v bo,.v aE],[bo],lS⟩
theorem vk:aD E OM:=
 .q (ao Ld aJ) (.k [0,1] .l) func170 call170 [(4,bo)]
def Qw:aF:=⟨282,[.v ei],[.bool],zr⟩
theorem Ym:aD E Qw:=
 .q aJ (.k [0] .l) func282 call282
def Qj:aF:=⟨265,[.v ei,.v ei],[aE],zp⟩
theorem Yd:aD E Qj:=
 .q (ao Ym aJ) (.k [0,1] .l) func265 call265
def PH:aF:=⟨226,[.v dD,.v dD],[aE],sp⟩
theorem BU:aD E PH:=
 .q (ao Yd (ao Li aJ)) (.k [0,1] (.n (.n (.t .none (.n (.o (.p ⟨[aT 5],[]⟩ (.bw 0 ⟨[],[]⟩) .l))) .l)))) func226 call226
def PI:aF:=⟨227,[.v dD,.v dD],[dD],uB⟩
theorem Lc:aD E PI:=
 .q (ao j7 aJ) (.k [0,1] (.n (.n (.n (.t .none (.n (.o (.k [13,14] (.p ⟨[ai 5,(6,.v bD),aT 15],[(5,da)]⟩ (.x 0 ⟨[ai 5],[(5,da)]⟩) (.n (.n (.t (.x [15] ⟨[ai 5,(6,.v bD)],[(5,da)]⟩) (.o (.n (.n (.t (.x [7] ⟨[ai 5,(9,.v bD)],[(5,da)]⟩) .l .l)))) .l))))))) (.t .none (.z [5] .l) .l)))))) func227 call227 [(12,da)]
def OK:aF:=⟨169,[.v bo,.v bo],[bo],qC⟩
theorem BR:aD E OK:=
 .q (ao Lc (ao BU (ao BT (ao pO (ao j7 aJ))))) (.k [0,1] (.n (.n (.t .none (.o (.n (.t .none (.t .none (.d [.a,.a,.a,.a,.a,.a,.c [130] [128]]) .l) (.n (.t .none (.t .none (.d [.a,.a,.a,.a,.a,.a,.c [130] [128]]) .l) .l))))) (.t .none (.d [.a,.a,.a,.a,.a,.a,.c [130] [128]]) .l))))) func169 call169 [(2,gb),(3,gb),(4,bo)]
def NN:aF:=⟨104,[.v (.a6 .dk bv)],[bv],wF⟩
theorem KI:aD E NN:=
 .q (ao vk (ao BR (ao BQ (ao BO (ao tc aJ))))) (.k [0] (.n (.n (.n (.t .none (.n (.o (.k [12,13] (.p ⟨[ai 2,ai 3,aT 4,aT 14],[(2,g3),(3,jt)]⟩ (.bw 0 ⟨[ai 2,ai 3,aT 4],[(2,g3),(3,jt)]⟩) .l)))) (.n (.t .none (.n (.o (.k [4,36] (.p ⟨[ai 2,ai 9,(35,.s (.ref 3 [])),aT 37],[(2,g3),(3,jt),(9,dE)]⟩ (.x 2 ⟨[ai 2,ai 9],[(2,g3),(9,dE)]⟩) (.n (.n (.t .none (.o (.n (.d [.b [290],.b [354,360],.b [360],.b [354,364],.b [364],.a,.a,.a,.a,.c [290] [288]]))) .l))))))) .l))))))) func104 call104 [(2,bv),(3,jt),(6,bv),(7,bv),(9,bo),(11,bv)]
def N4:aF:=⟨127,[.v (.ptr .dk (.st (.pr (.a6 .dk eA) (.pr (.a6 .dk jP) (.pr (.a6 .dk (.dJ .dk bv)) (.pr (.a6 .dk eA) .nil)))))),.v wc,.v aE,.v aE],[bv],wA⟩
theorem WY:aD E N4:=
 .q (ao KY (ao KJ (ao KI (ao KH aJ)))) (.k [0,1,2,3] (.n (.n (.t .none (.n (.o (.k [25,26] (.p ⟨[ai 8,ai 9,aT 27],[(8,g3),(9,jt)]⟩ (.x 0 ⟨[ai 8,ai 9],[(8,g3),(9,jt)]⟩) (.n (.n (.t (.x [27] ⟨[ai 8,ai 9],[(8,g3),(9,jt)]⟩) (.o (.n (.n (.n (.t .none (.d [.b [289],.b [386],.a,.a,.a,.a,.a,.a,.a,.a,.a,.a,.a,.c [1826] [1824],.c [290,1826,1858] [288,1856,289,1857],.c [290,1858] [288,1856,289,1857]]) .l))))) .l))))))) .l)))) func127 call127 [(8,bv),(12,bv)]
def Re:aF:=⟨85,[.v bv],[aE],po⟩
theorem BX:aD E Re:=
 .q (ao td (ao tc aJ)) (.k [0] .l) func85 call85
def NO:aF:=⟨106,[.v bv],[bv],qA⟩
theorem BM:aD E NO:=
 .q (ao tc aJ) (.k [0] .l) func106 call106 [(2,bv)]
def QE:aF:=⟨292,[.v dD,.v ei],[dD,ei],zX⟩
theorem Yu:aD E QE:=
 .q (ao j7 aJ) (.k [0,1] (.n (.n (.n (.t .none (.n (.o (.p ⟨[ai 6,(7,.v bD),aT 8],[(6,da)]⟩ (.x 0 ⟨[ai 6,(7,.v bD)],[(6,da)]⟩) .l))) (.t .none (.z [6] .l) .l)))))) func292 call292 [(12,da)]
def QF:aF:=⟨293,[.v ei],[aE],zZ⟩
theorem Yv:aD E QF:=
 .q (ao Fl aJ) (.k [0] .l) func293 call293
def QG:aF:=⟨294,[.w ei,.v dD],[ei],wU⟩
theorem Yw:aD E QG:=
 .q aJ (.k [1] (.n (.n (.t .none (.d [.b [0],.a,.b [0],.b [0],.a,.a,.b [0],.a,.a,.b [0],.b [0],.a,.a,.a]) (.n (.t .none (.o (.k [5] (.p ⟨[(0,.w 0),(7,.v bD),(8,.v bD)],[(0,da)]⟩ (.x 0 ⟨[(0,.w 0),(7,.v bD)],[(0,da)]⟩) (.t (.bw [7,8] ⟨[(0,.w 0)],[(0,da)]⟩) (.t .none (.d [.a,.a,.a,.a,.a,.a,.a,.a,.a,.a,.a,.a,.a,.b [0],.a,.a,.b [0],.b [0],.a,.a,.a,.a]) .l) .l)))) (.n (.t .none (.n (.o (.k [5,7,84,85] (.p ⟨[(0,.w 0),(9,.v bD),(10,.v bD),aT 86],[(0,da)]⟩ (.x 2 ⟨[(0,.w 0),(9,.v bD),(10,.v bD)],[(0,da)]⟩) .l)))) (.n (.n (.n (.n (.t .none (.n (.o (.k [5,7,140,141] (.p ⟨[(0,.w 0),(9,.v bD),aT 142],[(0,da)]⟩ (.x 4 ⟨[(0,.w 0),(9,.v bD)],[(0,da)]⟩) .l)))) .l))))))))))))) func294 call294
def Qv:aF:=⟨280,[.v dD,.v dD],[dD,dD],wV⟩
theorem Lk:aD E Qv:=
 .q (ao Yw (ao Yv (ao Yu (ao Fq (ao Fp (ao BU (ao BS (ao j7 aJ)))))))) (.k [0,1] (.n (.n (.n (.n (.n (.n (.n (.n (.n (.t .none (.n (.o (.k [8,9,11] (.p ⟨[ai 4,ai 10,aT 12],[(4,da),(10,da)]⟩ (.x 0 ⟨[ai 4,ai 10],[(4,da),(10,da)]⟩) .l)))) (.t .none (.z [10] .l) (.t .none (.z [4] .l) .l))))))))))))) func280 call280 [(47,da),(59,da),(5,dD)] [(5,18),(33,32)]
def Qu:aF:=⟨279,[.v dD],[dD],zW⟩
theorem Yl:aD E Qu:=
 .q (ao Lk (ao Fq (ao Fp (ao Lh (ao BU (ao BT aJ)))))) (.k [0] (.n (.n (.n (.o (.p ⟨[(3,.v dD)],[]⟩ .r .l)))))) func279 call279 [] [(16,11)]
def Qd:aF:=⟨257,[.v bo],[bo,aE],zU⟩
theorem X9:aD E Qd:=
 .q (ao Yl (ao pO (ao j7 (ao td aJ)))) (.k [0] .l) func257 call257 [(1,gb),(2,bo)]
def OR:aF:=⟨175,[.v bo,.v bo],[aE],wR⟩
theorem KZ:aD E OR:=
 .q (ao BU (ao j7 (ao td aJ))) (.k [0,1] .l) func175 call175 [(2,gb),(3,gb)]
def Pp:aF:=⟨207,[.v bv,.v aE],[k6],zD⟩
theorem XE:aD E Pp:=
 .q (ao X9 (ao x5 (ao KZ (ao vk (ao KW aJ))))) (.k [0,1] (.n (.n (.t (.x [2] ⟨[ai 4,aT 5],[(4,(.optr k6))]⟩) .l (.n (.n (.t .none (.d [.b [226],.a,.a,.a,.a,.a,.b [226],.b [226],.a,.b [194],.a,.a,.a,.c [130] [128]]) .l))))))) func207 call207 [(2,nX),(4,k6),(6,bo),(7,bo)]
def P8:aF:=⟨252,[.v k6],[aE],zB⟩
theorem X5:aD E P8:=
 .q (ao x5 aJ) (.k [0] .l) func252 call252 [(1,(.ptr .bx k6))]
def QD:aF:=⟨291,[.v bo,.v bo],[bo],zV⟩
theorem Yt:aD E QD:=
 .q (ao BR aJ) (.k [0,1] .l) func291 call291 [(2,gb),(4,bo)]
def Qt:aF:=⟨278,[.v k6,.v aE],[bo,aE,.bool],wE⟩
theorem Yk:aD E Qt:=
 .q (ao Yt (ao La (ao x5 (ao KZ (ao vk (ao Fg (ao td aJ))))))) (.k [0,1] (.n (.n (.n (.n (.t .none (.d [.a,.a,.b [130],.a,.a,.a,.c [258] [256],.c [258] [256]]) (.t .none (.d [.b [258],.a,.a,.a,.a,.a,.a]) (.t (.x [2] ⟨[ai 4,aT 5,ai 8],[(4,dE),(8,dE)]⟩) .l (.t .none (.d [.b [130],.a,.b [258],.a,.a,.a,.a,.a,.a,.a,.c [130] [128],.a,.a]) .l))))))))) func278 call278 [(2,(.ptr .bx k6)),(4,bo),(8,bo)]
def Qa:aF:=⟨254,[.v k6,.v aE,.v aE],[bo],zC⟩
theorem X7:aD E Qa:=
 .q (ao Yk (ao K9 (ao vk (ao BR (ao Fh (ao Fg (ao td aJ))))))) (.k [0,1,2] (.n (.n (.t (.x [3] ⟨[ai 6,ai 7,aT 8,(9,.v .bool)],[(6,dE),(7,dE)]⟩) .l (.n (.t (.x [3] ⟨[ai 6,ai 7,(10,.v .bool)],[(6,dE),(7,dE)]⟩) .l (.t (.x [3] ⟨[ai 6,ai 7],[(6,dE),(7,dE)]⟩) (.n (.t .none (.d [.b [226],.a,.a,.c [226] [224]]) .l)) (.t (.x [] ⟨[ai 6,ai 7],[(6,dE),(7,dE)]⟩) .l .l)))))))) func254 call254 [(3,(.ptr .bx k6)),(6,bo),(7,bo)]
def ON:aF:=⟨171,[.v bo],[bo],ux⟩
theorem KX:aD E ON:=
 .q (ao BS (ao pO aJ)) (.k [0] .l) func171 call171 [(1,gb),(2,bo)] [(6,5)]
def P9:aF:=⟨253,[.v bo],[aE,.bool],zS⟩
theorem X6:aD E P9:=
 .q (ao j7 aJ) (.k [0] (.n (.n (.n (.n (.t .none (.n (.o (.k [1,14,15] (.p ⟨[(5,.v bD),aT 16],[]⟩ (.x 0 ⟨[(5,.v bD)],[]⟩) .l)))) (.t (.bw [] ⟨[],[]⟩) (.o (.t (.x [1,5] ⟨[(29,.v .bool)],[]⟩) .l (.n (.t (.x [5] ⟨[(45,.v .bool)],[]⟩) .l .l)))) .l))))))) func253 call253 [(1,gb)]
def Qb:aF:=⟨255,[.v bD,.v .bool],[bD],so⟩
theorem Lg:aD E Qb:=
 .q aJ (.k [0,1] .l) func255 call255
def Qc:aF:=⟨256,[.v .bool,.v aE],[bD],zJ⟩
theorem X8:aD E Qc:=
 .q (ao Lg aJ) (.k [0,1] (.n (.t (.bw [] ⟨[],[]⟩) (.t (.x [] ⟨[(21,.v .bool)],[]⟩) .l .l) .l))) func256 call256
def Po:aF:=⟨206,[.v k6,.v aE],[bD],wL⟩
theorem K7:aD E Po:=
 .q (ao X8 (ao Lg (ao X7 (ao X6 (ao X5 (ao KX aJ)))))) (.k [0,1] (.n (.n (.n (.n (.t (.x [2] ⟨[aT 5,(8,.v bD)],[]⟩) .l .l)))))) func206 call206 [(2,(.ptr .bx k6))]
def N5:aF:=⟨128,[.v bv,.v aE],[bD],wK⟩
theorem KL:aD E N5:=
 .q (ao BX (ao XE (ao K7 (ao BM aJ)))) (.k [0,1] (.n (.n (.t (.bw [] ⟨[ai 2],[(2,g3)]⟩) (.o (.t (.x [] ⟨[ai 2,(7,.v .bool)],[(2,g3)]⟩) .l .l)) .l)))) func128 call128
def N6:aF:=⟨129,[.v bD],[aE],wI⟩
theorem KM:aD E N6:=
 .q (ao Ff aJ) (.k [0] (.n (.n (.t .none (.o (.t (.x [3,4] ⟨[(10,.v .bool)],[]⟩) .l .l)) .l)))) func129 call129
def Qe:aF:=⟨258,[.v bo,.v bo],[bo,bo,aE],zR⟩
theorem Ya:aD E Qe:=
 .q (ao Lk (ao Lc (ao BT (ao pO (ao j7 aJ))))) (.k [0,1] (.n (.n (.n (.n (.t (.x [2,3] ⟨[ai 4,ai 5,(8,.v dD),(9,.v dD)],[(4,dE),(5,dE)]⟩) (.t (.x [7,8,9] ⟨[ai 4,ai 5,(32,.v .bool)],[(4,dE),(5,dE)]⟩) .l .l) .l)))))) func258 call258 [(2,gb),(3,gb),(4,bo),(5,bo)] [(35,34)]
def Pq:aF:=⟨208,[.v bv,.v bv,.v aE],[k6],zA⟩
theorem XF:aD E Pq:=
 .q (ao Ya (ao x5 (ao KX (ao vk (ao td aJ))))) (.k [0,1,2] (.n (.n (.t .none (.d [.a,.a,.a,.a,.a,.a,.a,.a,.a,.a,.a,.a,.a,.c [258] [256],.c [290] [288],.c [258] [256],.c [290] [288],.a]) (.t .none (.d [.a,.a,.a,.a,.a,.a,.a,.b [258],.a,.a,.a,.a,.a,.a,.a,.b [290],.a,.a,.a,.c [194] [192]]) .l))))) func208 call208 [(3,nX),(4,nX),(6,k6),(8,bo),(9,bo)]
def N8:aF:=⟨130,[.v bv,.v bv,.v aE],[bD],wJ⟩
theorem KO:aD E N8:=
 .q (ao BX (ao XF (ao K7 (ao BM aJ)))) (.k [0,1,2] (.n (.t .none (.d [.b [98],.a,.b [130],.a,.c [98] [96],.c [130] [128]]) (.t (.bw [] ⟨[ai 3,ai 4],[(3,g3),(4,g3)]⟩) (.o (.t (.x [] ⟨[ai 3,ai 4,(11,.v .bool)],[(3,g3),(4,g3)]⟩) .l .l)) .l)))) func130 call130
def QY:aF:=⟨57,[.m i9,.v wc,.v aE],[aE],zn⟩
theorem YI:aD E QY:=
 .q (ao BY (ao BX (ao Fu (ao KO (ao KM (ao KL (ao WY aJ))))))) (.k [1,2] (.n (.n (.n (.n (.n (.t .none (.d [.b [1],.b [2],.b [2,8],.b [8],.a,.b [1],.b [2],.b [2,12],.b [12],.a,.a,.c [1154] [1152],.c [1186] [1184],.a,.a,.a,.c [1186] [1184],.b [1185],.b [8,10],.c [1154,10] [0,1152,1153],.b [12,14],.c [1186,14] [0,1184,1185]]) (.n (.t .none (.n (.o (.k [8,54,55] (.p ⟨[ai 0,aT 56],[(0,i9)]⟩ (.bw 0 ⟨[ai 0],[(0,i9)]⟩) (.n (.n (.t .none (.o (.n (.n (.n (.d [.b [1],.b [2],.b [2,8],.b [8],.a,.b [1],.b [2],.b [2,12],.b [12],.a,.b [12,14],.b [14],.a,.b [1],.b [2],.b [2,8],.b [8],.a,.b [8,10],.b [10],.a,.c [2946] [2944],.c [2976,2946,10] [2976,3,9,13,15],.a,.a,.b [8,10],.c [2976,10] [0,2976,2977],.c [0,14] [0],.b [0],.c [0,14] [0]]))))) .l))))))) .l))))))))) func57 call57 [(7,bv),(37,(.mp bv))]
def N9:aF:=⟨131,[.v eA],[bO],Ab⟩
theorem WZ:aD E N9:=
 .q aJ (.k [0] .l) func131 call131 [(2,bO)]
def QZ:aF:=⟨58,[.v (.ptr .dk (.st (.pr (.a6 .dk eA) (.pr (.a6 .dk jP) (.pr (.a6 .dk (.dJ .dk bv)) (.pr (.a6 .dk eA) .nil)))))),.v eA],[wd],wz⟩
theorem Lq:aD E QZ:=
 .q (ao WZ aJ) (.k [0,1] (.n (.n (.t .none (.n (.o (.k [15] (.p ⟨[ai 4,ai 5,aT 16],[(4,yW),(5,yW)]⟩ (.x 0 ⟨[ai 4,ai 5],[(4,yW),(5,yW)]⟩) (.n (.n (.t .none (.o (.n (.t .none (.d [.b [162,172],.b [172],.a,.a,.a,.a,.a,.a,.a,.c [896,172,174] [896,163],.b [162,172],.c [896,172,174] [160,896,897]]) (.t .none (.d [.b [162,176],.b [176],.a,.a,.a,.a,.a,.a,.a,.c [1248,176,178] [1248,163],.b [162,176],.c [1248,176,178] [160,1248,1249]]) .l)))) .l))))))) .l)))) func58 call58 [(4,wd),(10,wd),(5,wd)]
def N7:aF:=⟨13,[.v hV,.v eA],[pc,aE,aE],pn⟩
theorem KN:aD E N7:=
 .q (ao Lq (ao YI (ao Lp (ao Lo aJ)))) (.k [0,1] (.n (.n (.n (.n (.t .none (.n (.o (.k [7,27] (.p ⟨[ai 4,ai 9,aT 28],[(4,r6),(9,i9)]⟩ (.bw 0 ⟨[ai 4,ai 9],[(4,r6),(9,i9)]⟩) .l)))) (.t .none (.d [.b [289],.a,.c [290,1538] [1536],.a,.a,.a,.a,.c [130,1538] [128,1536,1537],.a,.a]) .l))))))) func13 call13 [(2,kE),(4,pc)] [(999999,48)]
def Pg:aF:=⟨20,[.v eA,.v eA],[.bool],sw⟩
theorem K4:aD E Pg:=
 .q aJ (.k [0,1] (.n (.n (.t .none (.n (.o (.p ⟨[aT 5],[]⟩ (.bw 0 ⟨[],[]⟩) .l))) .l)))) func20 call20
def QU:aF:=⟨53,[.v jP,.v jP],[.bool],Ap⟩
theorem Ln:aD E QU:=
 .q aJ (.k [0,1] (.n (.n (.t .none (.n (.o (.p ⟨[aT 5],[]⟩ (.bw 0 ⟨[],[]⟩) .l))) .l)))) func53 call53
def NQ:aF:=⟨11,[],[.bool],Ar⟩
theorem WM:aD E NQ:=
 .q (ao Ln (ao Lm (ao K4 (ao KN aJ)))) .l func11 call11 [(4,pc)] [(17,11),(17,12),(17,16)]
def Pr:aF:=⟨21,[.v aE,.v aE],[aE],qF⟩
theorem x4:aD E Pr:=
 .q aJ (.k [0,1] .l) func21 call21
def QR:aF:=⟨50,[.v jP,.v aE],[bD],sv⟩
theorem Fr:aD E QR:=
 .q (ao x4 aJ) (.k [0,1] (.n (.n (.t (.x [] ⟨[(5,.v bD)],[]⟩) .l .l)))) func50 call50
def Q0:aF:=⟨67,[.v bD],[.bool],uL⟩
theorem Fs:aD E Q0:=
 .q aJ (.k [0] .l) func67 call67
def OG:aF:=⟨164,[.v bD],[bD],DH⟩
theorem Xd:aD E OG:=
 .q (ao Lm aJ) (.k [0] .l) func164 call164
def Rp:aF:=⟨99,[.v bD,.v aE],[bD],Am⟩
theorem YR:aD E Rp:=
 .q (ao Fs (ao x4 (ao Xd aJ))) (.k [0,1] .l) func99 call99
def QO:aF:=⟨35,[.v jP,.v aE,.v aE,.v aE],[js],w1⟩
theorem Ll:aD E QO:=
 .q (ao YR (ao Fr aJ)) (.k [0,1,2,3] (.n (.n (.t .none (.n (.o (.p ⟨[ai 8,ai 9,aT 10],[(8,dL),(9,dL)]⟩ (.x 0 ⟨[ai 8,ai 9],[(8,dL),(9,dL)]⟩) (.n (.t .none (.o (.t .none (.n (.o (.k [10] (.p ⟨[ai 8,ai 9,aT 11],[(8,dL),(9,dL)]⟩ (.x 2 ⟨[ai 8,ai 9],[(8,dL),(9,dL)]⟩) (.n (.t (.x [11] ⟨[ai 8,ai 9],[(8,dL),(9,dL)]⟩) (.o (.n (.n (.t .none (.n (.d [.b [290,308],.b [308],.a,.a,.a,.c [1602] [1600],.c [1632,1602,308,310] [1632,291],.b [290,308],.c [1632,308,310] [288,1632,1633]])) .l)))) .l)))))) .l)) .l))))) .l)))) func35 call35 [(8,js),(16,js),(9,js)]
def Oa:aF:=⟨135,[.v jP],[.bool],AG⟩
theorem W0:aD E Oa:=
 .q (ao Fs aJ) (.k [0] (.n (.t .none (.n (.o (.p ⟨[aT 3],[]⟩ (.bw 0 ⟨[],[]⟩) .l))) .l))) func135 call135
def Q1:aF:=⟨68,[.v hV],[aE],qI⟩
theorem BW:aD E Q1:=
 .q (ao W0 aJ) (.k [0] (.n (.t (.bw [1] ⟨[],[]⟩) .l (.n (.t (.bw [1] ⟨[],[]⟩) .l (.t .none (.n (.o (.k [1] (.p ⟨[aT 4],[]⟩ (.bw 0 ⟨[],[]⟩) .l)))) (.t .none (.n (.o (.k [1] (.p ⟨[aT 5],[]⟩ (.bw 2 ⟨[],[]⟩) (.n (.t .none (.o (.n (.o (.k [5] (.p ⟨[aT 6],[]⟩ (.bw 4 ⟨[],[]⟩) (.n (.t (.bw [6] ⟨[],[]⟩) .l .l))))))) .l)))))) .l))))))) func68 call68 [(1,kE)]
def P5:aF:=⟨25,[.v hV,.v aE,.v aE],[bD],sz⟩
theorem X2:aD E P5:=
 .q (ao BW aJ) (.k [0,1,2] (.n (.t (.bw [3] ⟨[],[]⟩) .l (.t .none (.n (.o (.k [3] (.p ⟨[aT 7],[]⟩ (.bw 0 ⟨[],[]⟩) .l)))) .l)))) func25 call25 [(3,kE)]
def Ri:aF:=⟨89,[.v bD],[.bool],AD⟩
theorem YP:aD E Ri:=
 .q aJ (.k [0] .l) func89 call89
def PV:aF:=⟨24,[.v bD],[bv],AE⟩
theorem XS:aD E PV:=
 .q (ao YP (ao x6 (ao BZ (ao Fs aJ)))) (.k [0] (.n (.n (.n (.n (.t (.x [] ⟨[ai 2,(4,.v bD),aT 5],[(2,g3)]⟩) .l .l)))))) func24 call24 [(2,bv)] [(30,29)]
def QJ:aF:=⟨30,[.v bv],[bv],Az⟩
theorem Yz:aD E QJ:=
 .q (ao Fz (ao Fv (ao x6 aJ))) (.k [0] (.n (.n (.n (.t .none (.d [.b [34,40],.b [40],.a,.b [34,44],.b [44],.a,.c [66] [64]]) .l))))) func30 call30 [(2,bv)]
def QC:aF:=⟨29,[.v (.a6 .dk bv)],[bv],AB⟩
theorem Ys:aD E QC:=
 .q (ao Fy (ao Fx (ao Fw (ao Fv (ao x6 (ao BZ aJ)))))) (.k [0] (.n (.n (.t .none (.n (.o (.p ⟨[ai 2,ai 3,aT 4,aT 5],[(2,g3),(3,dE)]⟩ (.bw 0 ⟨[ai 2,ai 3,aT 4],[(2,g3),(3,dE)]⟩) (.n (.t (.bw [5] ⟨[ai 2,ai 3,aT 4],[(2,g3),(3,dE)]⟩) (.o (.n (.n (.n (.o (.n (.t .none (.d [.b [194,200],.b [200],.b [194,204],.b [204],.c [98] [96],.a]) (.n (.t .none (.d [.b [98],.b [194,200],.b [200],.b [194,204],.b [204],.a,.a,.a,.a,.c [98] [96]]) (.d [.b [98],.a,.b [194,204],.b [204],.a,.a,.b [194,200],.b [200],.a,.b [194,204],.b [204],.c [98] [96],.a])))))))))) .l))))) .l)))) func29 call29 [(2,bv),(3,bo),(6,bv)]
def NX:aF:=⟨120,[.v hV,.v aE,.v aE],[.bool],xc⟩
theorem WS:aD E NX:=
 .q aJ (.k [0,1,2] (.n (.t (.bw [3] ⟨[],[]⟩) .l (.t .none (.n (.o (.k [3] (.p ⟨[aT 7],[]⟩ (.bw 0 ⟨[],[]⟩) .l)))) .l)))) func120 call120 [(3,kE)]
def QV:aF:=⟨54,[.v jP,.v aE,.v aE],[js],Al⟩
theorem YH:aD E QV:=
 .q (ao Lv (ao Ll (ao Yz (ao Ys (ao X2 (ao XS (ao x4 (ao WS (ao KK aJ))))))))) (.k [0,1,2] (.n (.n (.n (.t .none (.n (.o (.p ⟨[ai 6,ai 7,ai 8,aT 9],[(6,dL),(7,dL),(8,dL)]⟩ (.x 0 ⟨[ai 6,ai 8],[(6,dL),(8,dL)]⟩) (.n (.t .none (.o (.t .none (.n (.o (.k [9] (.p ⟨[ai 6,ai 7,ai 8,aT 10],[(6,dL),(7,dL),(8,dL)]⟩ (.x 2 ⟨[ai 6,ai 7,ai 8],[(6,dL),(7,dL),(8,dL)]⟩) (.n (.t (.x [10] ⟨[ai 6,ai 7,ai 8],[(6,dL),(7,dL),(8,dL)]⟩) (.o (.n (.t .none (.n (.t .none (.n (.o (.p ⟨[ai 6,ai 7,ai 8,ai 11,aT 12],[(6,dL),(7,dL),(8,dL),(11,jt)]⟩ (.x 4 ⟨[ai 6,ai 7,ai 8,ai 11],[(6,dL),(7,dL),(8,dL),(11,jt)]⟩) (.n (.t (.x [12] ⟨[ai 6,ai 7,ai 8,ai 11],[(6,dL),(7,dL),(8,dL),(11,jt)]⟩) .l .l))))) (.n (.d [.b [258,276],.b [276],.b [353],.b [354],.a,.c [2242] [2240],.c [2272,2242,276,278] [2272,259],.b [258,276],.c [2272,276,278] [256,2272,2273]])))) (.n (.t .none (.n (.d [.b [258,276],.b [276],.b [224,226],.a,.a,.b [224],.c [2850] [2848],.c [2880,2850,276,278] [2880,259],.b [258,276],.c [2880,276,278] [256,2880,2881]])) .l))))) .l)))))) .l)) .l))))) .l))))) func54 call54 [(6,js),(7,js),(22,js),(8,js)]
def QS:aF:=⟨51,[.v jP,.v aE],[fg],w2⟩
theorem YG:aD E QS:=
 .q (ao Fr (ao x4 aJ)) (.k [0,1] (.n (.n (.t .none (.n (.o (.p ⟨[(5,.v fg),aT 6],[]⟩ (.x 0 ⟨[(5,.v fg)],[]⟩) (.n (.t .none (.o (.n (.d [.c [738] [736],.a,.a,.a,.c [738,866] [736,864,737,865],.a,.c [930] [928],.c [866,930,962] [864,960,865,961],.a,.a,.a,.c [962,1090] [960,1088,961,1089],.c [1090] [1088,1089]]))) .l))))) .l)))) func51 call51 [(5,fg)] [(5,8),(5,34)]
def NW:aF:=⟨12,[.v jP,.v aE,.v aE,.v .bool],[kk,fg],As⟩
theorem WR:aD E NW:=
 .q (ao YH (ao YG (ao Ll (ao x4 aJ)))) (.k [0,2,3] .l) func12 call12 [(8,kk)] [(999999,16),(999999,24)]
def Q2:aF:=⟨69,[.v hV],[eI],xb⟩
theorem Lr:aD E Q2:=
 .q (ao BW aJ) (.k [0] (.n (.n (.n (.t .none (.n (.o (.k [1] (.p ⟨[ai 3,aT 4],[(3,eI)]⟩ (.x 0 ⟨[ai 3],[(3,eI)]⟩) (.n (.t .none (.o (.n (.o (.k [4] (.p ⟨[ai 3,aT 5],[(3,eI)]⟩ (.x 2 ⟨[ai 3],[(3,eI)]⟩) (.n (.t .none (.o (.d [.b [97],.a,.a,.a,.a,.a,.a,.a,.a,.a,.a,.a,.a,.c [1378] [1376],.c [98,1378,1410] [96,1408,97,1409],.c [98,1410] [96,1408,97,1409]])) .l))))))) .l)))))) .l))))) func69 call69 [(1,kE),(3,eI),(2,eI)]
def Q3:aF:=⟨70,[.v aE,.v aE,.v (.a6 .dk kj)],[js],AH⟩
theorem YJ:aD E Q3:=
 .q aJ (.k [0,1,2] (.n (.n (.n (.t .none (.n (.o (.p ⟨[ai 6,ai 7,ai 8,aT 9],[(6,dL),(7,dL),(8,bO)]⟩ (.x 0 ⟨[ai 6,ai 7,ai 8],[(6,dL),(7,dL),(8,bO)]⟩) (.n (.t .none (.o (.d [.b [257],.a,.a,.a,.a,.a,.a,.a,.a,.a,.a,.a,.a,.a,.a,.a,.b [256,258],.c [256] [256]])) .l))))) (.t .none (.n (.o (.p ⟨[ai 6,ai 7,ai 8,aT 10],[(6,dL),(7,dL),(8,bO)]⟩ (.x 2 ⟨[ai 6,ai 7],[(6,dL),(7,dL)]⟩) (.n (.t .none (.o (.t .none (.n (.o (.k [10] (.p ⟨[ai 6,ai 7,ai 8,aT 11],[(6,dL),(7,dL),(8,bO)]⟩ (.x 4 ⟨[ai 6,ai 7,ai 8],[(6,dL),(7,dL),(8,bO)]⟩) (.n (.t (.x [11] ⟨[ai 6,ai 7,ai 8],[(6,dL),(7,dL),(8,bO)]⟩) (.o (.n (.n (.t .none (.n (.d [.b [226,244],.b [244],.a,.a,.a,.a,.a,.a,.c [2498] [2496],.c [2528,2498,244,246] [2528,227],.b [226,244],.c [2528,244,246] [224,2528,2529]])) .l)))) .l)))))) .l)) .l))))) .l)))))) func70 call70 [(6,js),(16,js),(7,js),(20,bO)]
def OC:aF:=⟨16,[.v hV],[kk,aE],sA⟩
theorem Xb:aD E OC:=
 .q (ao YJ (ao Lr (ao BW aJ))) (.k [0] (.n (.n (.n (.n (.t .none (.n (.o (.k [1,6] (.p ⟨[ai 2,ai 5,aT 7],[(2,(.optr kk)),(5,eI)]⟩ (.x 0 ⟨[ai 2,ai 5],[(2,(.optr kk)),(5,eI)]⟩) (.n (.t (.x [7] ⟨[ai 2,ai 5],[(2,(.optr kk)),(5,eI)]⟩) .l .l)))))) .l)))))) func16 call16 [(1,kE),(2,kk),(6,(.a6 .bx kj)),(5,eI)] [(6,15),(999999,45)]
def Q4:aF:=⟨71,[.v aE],[dW],xf⟩
theorem Ls:aD E Q4:=
 .q aJ (.k [0] (.n (.n (.t .none (.n (.o (.p ⟨[ai 3,aT 4],[(3,dW)]⟩ (.x 0 ⟨[ai 3],[(3,dW)]⟩) .l))) .l)))) func71 call71 [(3,dW),(12,g8),(13,dW)]
def Q5:aF:=⟨72,[.v (.a6 .dk (.a6 .dk .bool))],[h8],xd⟩
theorem Lt:aD E Q5:=
 .q aJ (.k [0] (.n (.n (.t .none (.n (.o (.p ⟨[ai 2,ai 3,aT 4],[(2,(.optr h8)),(3,(.optr h8))]⟩ (.x 0 ⟨[ai 2,ai 3],[(2,(.optr h8)),(3,(.optr h8))]⟩) (.n (.t .none (.o (.n (.t .none (.n (.o (.k [4] (.p ⟨[ai 2,ai 3,ai 5,aT 6],[(2,(.optr h8)),(3,(.optr h8)),(5,bO)]⟩ (.x 2 ⟨[ai 2,ai 3,ai 5],[(2,(.optr h8)),(3,(.optr h8)),(5,bO)]⟩) (.n (.t (.x [6] ⟨[ai 2,ai 3,ai 5],[(2,(.optr h8)),(3,(.optr h8)),(5,bO)]⟩) (.o (.t (.x [] ⟨[ai 2,ai 3,ai 5,(39,.v .bool)],[(2,(.optr h8)),(3,(.optr h8)),(5,bO)]⟩) .l .l)) .l)))))) (.z [5] .l)))) .l))))) .l)))) func72 call72 [(2,h8),(3,h8),(5,bO)]
def OL:aF:=⟨17,[.v hV],[fQ,aE],sB⟩
theorem Xe:aD E OL:=
 .q (ao Lt (ao Ls (ao Lr (ao BW aJ)))) (.k [0] (.n (.n (.n (.n (.n (.t .none (.n (.o (.k [6] (.p ⟨[ai 2,ai 5,aT 7],[(2,(.optr fQ)),(5,dW)]⟩ (.x 0 ⟨[ai 2,ai 5],[(2,(.optr fQ)),(5,dW)]⟩) (.n (.t .none (.o (.d [.b [161],.a,.a,.a,.a,.a,.b [160,162],.b [160],.a,.a,.a,.a,.a,.b [160],.c [160] [160]])) .l)))))) .l))))))) func17 call17 [(1,kE),(2,fQ),(6,(.a6 .bx kj))] [(6,24),(999999,46)]
def Ob:aF:=⟨136,[.v eA],[.bool],Ao⟩
theorem W1:aD E Ob:=
 .q aJ (.k [0] (.n (.t .none (.n (.o (.p ⟨[aT 3],[]⟩ (.bw 0 ⟨[],[]⟩) .l))) .l))) func136 call136
def Oc:aF:=⟨137,[.v eA,.v aE],[.bool],w3⟩
theorem KP:aD E Oc:=
 .q aJ (.k [0,1] (.n (.t .none (.n (.o (.p ⟨[aT 5],[]⟩ (.bw 0 ⟨[],[]⟩) .l))) .l))) func137 call137
def Q6:aF:=⟨73,[.v jr],[aE],uM⟩
theorem Ft:aD E Q6:=
 .q (ao KP (ao W1 aJ)) (.k [0] (.n (.n (.n (.t .none (.n (.o (.k [1,3] (.p ⟨[aT 4],[]⟩ (.bw 0 ⟨[],[]⟩) (.n (.t .none (.o (.n (.n (.o (.k [4] (.p ⟨[aT 5],[]⟩ (.bw 2 ⟨[],[]⟩) (.n (.t (.bw [5] ⟨[],[]⟩) .l .l)))))))) .l)))))) .l))))) func73 call73 [(1,i7)]
def Q7:aF:=⟨74,[.v eA,.v aE],[.bool],Aq⟩
theorem YK:aD E Q7:=
 .q aJ (.k [0,1] (.n (.n (.n (.t .none (.n (.o (.p ⟨[ai 5,aT 6],[(5,g8)]⟩ (.bw 0 ⟨[],[]⟩) (.n (.t (.bw [6] ⟨[ai 5],[(5,g8)]⟩) (.o (.t (.bw [] ⟨[ai 5],[(5,g8)]⟩) .l .l)) .l))))) .l))))) func74 call74 [(12,g8)]
def Od:aF:=⟨138,[.v eA,.v aE],[.bool],AI⟩
theorem W2:aD E Od:=
 .q aJ (.k [0,1] (.n (.t .none (.n (.o (.p ⟨[aT 5],[]⟩ (.bw 0 ⟨[],[]⟩) (.n (.t (.bw [5] ⟨[],[]⟩) .l .l))))) .l))) func138 call138
def Oe:aF:=⟨139,[.v eA],[.bool],AJ⟩
theorem W3:aD E Oe:=
 .q (ao KP aJ) (.k [0] (.n (.t .none (.n (.o (.p ⟨[aT 3],[]⟩ (.bw 0 ⟨[],[]⟩) .l))) .l))) func139 call139
def Of:aF:=⟨140,[.v jr],[dW],xe⟩
theorem KQ:aD E Of:=
 .q aJ (.k [0] (.n (.n (.n (.t .none (.n (.o (.k [1,3] (.p ⟨[ai 4,aT 5],[(4,dW)]⟩ (.x 0 ⟨[ai 4],[(4,dW)]⟩) (.n (.t .none (.o (.n (.t .none (.n (.o (.k [5] (.p ⟨[ai 4,ai 6,aT 7],[(4,dW),(6,g8)]⟩ (.x 2 ⟨[ai 4,ai 6],[(4,dW),(6,g8)]⟩) .l)))) .l))) .l)))))) .l))))) func140 call140 [(1,i7),(4,dW),(17,g8),(40,dW)]
def Q8:aF:=⟨75,[.v jr,.v eA],[fQ,aE],AK⟩
theorem YL:aD E Q8:=
 .q (ao Ft (ao Lt (ao Ls (ao KQ (ao W3 (ao W2 aJ)))))) (.k [0,1] (.n (.n (.n (.n (.n (.n (.t .none (.n (.o (.k [7] (.p ⟨[ai 4,ai 8,aT 9],[(4,(.optr fQ)),(8,dW)]⟩ (.x 0 ⟨[ai 4,ai 8],[(4,(.optr fQ)),(8,dW)]⟩) (.n (.t .none (.o (.n (.o (.k [9] (.p ⟨[ai 4,ai 8,aT 10],[(4,(.optr fQ)),(8,dW)]⟩ (.x 2 ⟨[ai 4,ai 8],[(4,(.optr fQ)),(8,dW)]⟩) (.n (.t .none (.o (.d [.b [257],.a,.b [256,258],.b [256],.a,.a,.a,.a,.a,.a,.a,.a,.a,.a,.a,.a,.a,.a,.b [256],.c [256] [256]])) .l))))))) .l)))))) .l)))))))) func75 call75 [(2,i7),(4,fQ),(7,(.a6 .bx (.a6 .bx .bool)))] [(7,28),(999999,64)]
def OU:aF:=⟨18,[.v jr,.v eA],[fQ,aE],qJ⟩
theorem Xi:aD E OU:=
 .q (ao YL (ao YK (ao Ft aJ))) (.k [0,1] .l) func18 call18 [(2,i7),(4,fQ)]
def Q9:aF:=⟨76,[.v jr],[qm],AL⟩
theorem YM:aD E Q9:=
 .q (ao KQ aJ) (.k [0] (.n (.t .none (.d [.a,.c [130] [128],.a,.a,.a,.c [258] [256],.c [130,258,290] [128,256,288,129,257],.c [290,322] [288,320,289],.c [66,322] [64,320,65,321]]) .l))) func76 call76 [(1,i7),(8,g8)]
def Ra:aF:=⟨77,[.v (.ptr .dk (.st (.pr (.a6 .dk (.a6 .dk .bool)) (.pr (.a6 .dk .bool) .nil)))),.v aE],[bO],xh⟩
theorem Lu:aD E Ra:=
 .q aJ (.k [0,1] (.n (.n (.t .none (.n (.o (.p ⟨[ai 5,aT 6],[(5,bO)]⟩ (.x 0 ⟨[ai 5],[(5,bO)]⟩) (.n (.t (.x [6] ⟨[ai 5],[(5,bO)]⟩) (.o (.t (.x [] ⟨[ai 5,(35,.v .bool)],[(5,bO)]⟩) .l .l)) .l))))) .l)))) func77 call77 [(5,bO)]
def Rb:aF:=⟨78,[.m qm,.v aE],[],xg⟩
theorem YN:aD E Rb:=
 .q (ao Lu aJ) (.k [1] (.n (.t .none (.n (.o (.k [4] (.p ⟨[ai 0,aT 5],[(0,qm)]⟩ (.x 0 ⟨[ai 0],[(0,qm)]⟩) (.n (.t .none (.o (.n (.o (.k [5] (.p ⟨[ai 0,aT 6],[(0,qm)]⟩ (.x 2 ⟨[ai 0],[(0,qm)]⟩) (.n (.t (.x [6] ⟨[ai 0],[(0,qm)]⟩) (.o (.n (.t .none (.d [.b [1],.b [2],.b [2,4],.b [4],.a,.a,.a,.a,.b [4,6],.b [6],.a,.a,.a,.a,.b [6],.c [6] [0]]) .l))) .l))))))) .l)))))) .l))) func78 call78 [(4,fg)] [(4,9)]
def O6:aF:=⟨19,[.v jr],[(.osl fg),aE],xi⟩
theorem Xr:aD E O6:=
 .q (ao YN (ao Lu (ao YM (ao Ft aJ)))) (.k [0] (.n (.n (.n (.n (.t .none (.n (.o (.k [1] (.p ⟨[ai 5,ai 6,aT 7],[(5,qm),(6,(.osl fg))]⟩ (.x 0 ⟨[ai 6],[(6,(.osl fg))]⟩) .l)))) .l)))))) func19 call19 [(1,i7),(6,(.osl fg)),(2,(.osl fg))] [(29,28)]
def Oq:aF:=⟨15,[.v CU,.v CU],[.bool],An⟩
theorem W6:aD E Oq:=
 .q (ao Ln (ao K4 aJ)) (.k [0,1] .l) func15 call15 [(2,Hd),(3,Hd)]
def OQ:aF:=⟨174,[.v bv,.v bv],[bo,bo,aE],zE⟩
theorem Xg:aD E OQ:=
 .q (ao vk aJ) (.k [0,1] (.n (.n (.t .none (.d [.a,.a,.a,.a,.a,.a,.a,.a,.a,.a,.a,.a,.a,.a,.a,.c [130] [128],.c [162] [160],.a]) .l)))) func174 call174 [(2,nX),(3,nX),(4,bo),(5,bo)]
def OO:aF:=⟨172,[.v bv,.v bv],[bv],zz⟩
theorem Xf:aD E OO:=
 .q (ao Xg (ao BR (ao BQ (ao KV (ao BO aJ))))) (.k [0,1] .l) func172 call172 [(4,bv),(6,bo),(7,bo)]
def QP:aF:=⟨47,[.v hV,.v eA,.v jP],[ir],wZ⟩
theorem YE:aD E QP:=
 .q (ao Fr (ao Xr (ao Xi (ao Xe (ao Xb aJ))))) (.k [0,1,2] (.n (.n (.n (.n (.n (.n (.n (.n (.t .none (.n (.o (.k [13,15] (.p ⟨[ai 16,ai 17,aT 18],[(16,ir),(17,dW)]⟩ (.x 0 ⟨[ai 16,ai 17],[(16,ir),(17,dW)]⟩) (.n (.t (.x [18] ⟨[ai 16,ai 17],[(16,ir),(17,dW)]⟩) (.o (.t (.x [] ⟨[ai 16,ai 17],[(16,ir),(17,dW)]⟩) (.t (.x [] ⟨[ai 16,ai 17,(62,.v .bool)],[(16,ir),(17,dW)]⟩) .l .l) (.n (.n (.n (.o (.k [19] (.p ⟨[ai 16,ai 17,aT 20],[(16,ir),(17,dW)]⟩ (.x 2 ⟨[ai 16,ai 17],[(16,ir),(17,dW)]⟩) (.n (.t .none (.o (.d [.b [545],.a,.b [544,546],.b [544],.a,.a,.a,.a,.a,.a,.a,.b [544],.c [544] [544]])) .l)))))))))) .l)))))) (.t .none (.n (.o (.k [15] (.p ⟨[ai 16,ai 17,aT 21],[(16,ir),(17,dW)]⟩ (.x 4 ⟨[ai 16],[(16,ir)]⟩) (.n (.t .none (.o (.n (.o (.k [21] (.p ⟨[ai 16,ai 17,aT 22],[(16,ir),(17,dW)]⟩ (.x 6 ⟨[ai 16,ai 17],[(16,ir),(17,dW)]⟩) (.n (.t (.x [22] ⟨[ai 16,ai 17],[(16,ir),(17,dW)]⟩) (.o (.n (.n (.t (.x [] ⟨[ai 16,ai 17],[(16,ir),(17,dW)]⟩) (.t (.x [] ⟨[ai 16,ai 17,(155,.v .bool)],[(16,ir),(17,dW)]⟩) .l (.t .none (.n (.o (.p ⟨[ai 16,ai 17,aT 23],[(16,ir),(17,dW)]⟩ (.x 8 ⟨[ai 16,ai 17],[(16,ir),(17,dW)]⟩) (.n (.t (.x [23] ⟨[ai 16,ai 17],[(16,ir),(17,dW)]⟩) (.o (.t (.x [] ⟨[ai 16,ai 17,(179,.v .bool)],[(16,ir),(17,dW)]⟩) .l .l)) .l))))) .l)) .l)))) .l))))))) .l)))))) .l))))))))))) func47 call47 [(16,ir),(67,(.st (.pr aE (.pr aE (.pr bO (.pr aE .nil)))))),(68,ir),(17,dW),(73,dW),(3,kE),(7,kk),(9,fQ),(11,fQ),(13,(.a6 .bx fg)),(72,g8)] [(13,43000)]
def Qz:aF:=⟨286,[.v bD,.v bD],[bD,bD],z1⟩
theorem Yp:aD E Qz:=
 .q aJ (.k [0,1] .l) func286 call286
def Qm:aF:=⟨268,[.v bD,.v bD],[bD,bD],Dx⟩
theorem Ye:aD E Qm:=
 .q (ao Yp aJ) (.k [0,1] .l) func268 call268
def PM:aF:=⟨232,[.v eA,.v aE],[bO],Ah⟩
theorem XM:aD E PM:=
 .q (ao Ye aJ) (.k [0,1] (.n (.t (.x [] ⟨[],[]⟩) .l (.n (.t (.x [6] ⟨[],[]⟩) (.t (.x [] ⟨[(26,.v .bool)],[]⟩) .l .l) (.n (.n (.t .none (.o (.p ⟨[ai 7,aT 8],[(7,bO)]⟩ (.x 0 ⟨[ai 7],[(7,bO)]⟩) (.n (.o (.d [.a,.b [225],.a,.b [224,226],.b [225],.a,.b [224,226],.c [224] [224],.a,.a]))))) .l)))))))) func232 call232 [(30,bO)]
def OT:aF:=⟨179,[.v lI,.v aE],[bO,.bool],AM⟩
theorem Xh:aD E OT:=
 .q (ao XM aJ) (.k [0,1] (.n (.n (.t .none (.n (.o (.k [9,10] (.p ⟨[ai 6,aT 11],[(6,bO)]⟩ (.bw 0 ⟨[ai 6],[(6,bO)]⟩) (.n (.n (.t (.bw [11] ⟨[ai 6],[(6,bO)]⟩) (.o (.n (.t (.bw [7] ⟨[ai 6,ai 8],[(6,bO),(8,(.optr hW))]⟩) (.t (.x [] ⟨[ai 6,ai 8,(33,.v .bool)],[(6,bO),(8,(.optr hW))]⟩) .l .l) .l))) .l))))))) .l)))) func179 call179 [(6,bO),(8,hW),(4,bO)]
def OY:aF:=⟨182,[.v hW,.v aE],[.bool],AO⟩
theorem Xm:aD E OY:=
 .q aJ (.k [0,1] (.n (.n (.n (.t .none (.n (.o (.k [2,5,19,20] (.p ⟨[aT 21],[]⟩ (.bw 0 ⟨[],[]⟩) (.n (.n (.t (.bw [21] ⟨[],[]⟩) (.o (.n (.o (.t .none (.t (.x [6,7] ⟨[(26,.v .bool)],[]⟩) .l .l) .l)))) .l))))))) .l))))) func182 call182 [(2,(.ptr .bx hW))]
def O0:aF:=⟨184,[.v lI,.v eA,.v hW],[.bool],AN⟩
theorem Xo:aD E O0:=
 .q (ao Fk aJ) (.k [0,1,2] (.n (.n (.n (.n (.t .none (.n (.o (.k [5,35,36] (.p ⟨[aT 37],[]⟩ (.bw 0 ⟨[],[]⟩) .l)))) .l)))))) func184 call184 [(5,(.ptr .bx hW))]
def OX:aF:=⟨181,[.v hW,.v (.ptr .dk aE)],[.bool],DJ⟩
theorem Xl:aD E OX:=
 .q (ao Xm aJ) (.k [0,1] .l) func181 call181 [(2,(.ptr .bx hW))]
def PN:aF:=⟨233,[.v lI,.c 181 [(.ptr .dk aE)]],[aE],DB⟩
theorem XN:aD E PN:=
 .q (ao Xl aJ) (.k [0,1] (.n (.t .none (.n (.o (.k [7] (.p ⟨[aT 8],[]⟩ (.bw 0 ⟨[],[]⟩) .l)))) .l))) func233 call233
def OV:aF:=⟨180,[.v lI,.c 181 [(.ptr .dk aE)]],[.bool],Ad⟩
theorem Xj:aD E OV:=
 .q (ao XN aJ) (.k [0,1] .l) func180 call180
def OZ:aF:=⟨183,[.v hW,.v (.ptr .bx lI),.v (.ptr .dk eA)],[.bool],DK⟩
theorem Xn:aD E OZ:=
 .q (ao Xo aJ) (.k [0,1,2] .l) func183 call183 [(3,(.ptr .bx hW))]
def PO:aF:=⟨233,[.v lI,.c 183 [(.ptr .bx lI),(.ptr .dk eA)]],[aE],DC⟩
theorem XO:aD E PO:=
 .q (ao Xn aJ) (.k [0,1] (.n (.t .none (.n (.o (.k [7] (.p ⟨[aT 8],[]⟩ (.bw 0 ⟨[],[]⟩) .l)))) .l))) func233 call233
def OW:aF:=⟨180,[.v lI,.c 183 [(.ptr .bx lI),(.ptr .dk eA)]],[.bool],Ae⟩
theorem Xk:aD E OW:=
 .q (ao XO aJ) (.k [0,1] .l) func180 call180
def NR:aF:=⟨114,[.v jr,.v lI],[aE],uN⟩
theorem WN:aD E NR:=
 .q (ao Fk (ao Xh (ao Fj (ao Xk (ao Xj aJ))))) (.k [0,1] (.n (.n (.n (.n (.n (.t (.bw [2,3] ⟨[ai 7],[(7,(.optr fg))]⟩) .l (.n (.t .none (.n (.o (.k [3,40,41] (.p ⟨[ai 7,aT 42],[(7,(.optr fg))]⟩ (.bw 0 ⟨[],[]⟩) (.n (.n (.t .none (.o (.n (.n (.o (.k [9,42,47,48] (.p ⟨[ai 7,aT 49],[(7,(.optr fg))]⟩ (.bw 2 ⟨[ai 7],[(7,(.optr fg))]⟩) (.n (.n (.t (.bw [49] ⟨[ai 7],[(7,(.optr fg))]⟩) (.o (.n (.n (.t .none (.d [.a,.b [226],.a,.a,.a,.a,.a,.a,.a,.a,.a,.a,.a,.a,.a]) .l)))) .l))))))))) .l))))))) .l))))))))) func114 call114 [(2,i7),(3,(.ptr .bx lI)),(6,aE),(7,fg)] [(999999,27000)]
def O2:aF:=⟨186,[.v eA,.v aE],[aE],uF⟩
theorem K0:aD E O2:=
 .q aJ (.k [0,1] (.n (.t .none (.n (.o (.k [7] (.p ⟨[aT 8],[]⟩ (.bw 0 ⟨[],[]⟩) .l)))) .l))) func186 call186
def PT:aF:=⟨238,[.v aE,.v aE,.v aE],[aE],zy⟩
theorem XR:aD E PT:=
 .q aJ (.k [0,1,2] (.n (.t .none (.o (.t (.x [] ⟨[(7,.v .bool)],[]⟩) .l (.n (.t (.x [] ⟨[(14,.v .bool)],[]⟩) .l .l)))) .l))) func238 call238
def PS:aF:=⟨237,[.v bv],[.bool],sn⟩
theorem BV:aD E PS:=
 .q (ao tc aJ) (.k [0] .l) func237 call237 [(1,nX),(3,bv)]
def O4:aF:=⟨188,[.v pd],[aE],uq⟩
theorem K1:aD E O4:=
 .q (ao XR (ao BV aJ)) (.k [0] (.n (.n (.t .none (.n (.o (.k [18,19] (.p ⟨[aT 20],[]⟩ (.bw 0 ⟨[],[]⟩) .l)))) .l)))) func188 call188 [(1,(.ptr .bx pd)),(5,bv)]
def PR:aF:=⟨236,[.v eA,.v aE],[.bool],zx⟩
theorem XQ:aD E PR:=
 .q aJ (.k [0,1] (.n (.t .none (.n (.o (.k [7,8] (.p ⟨[aT 9],[]⟩ (.bw 0 ⟨[],[]⟩) (.n (.n (.t (.bw [9] ⟨[],[]⟩) .l .l))))))) .l))) func236 call236
def O3:aF:=⟨187,[.v pd,.v eA,.v pd],[jQ,aE],zt⟩
theorem Xp:aD E O3:=
 .q (ao BV (ao XQ (ao K1 (ao Xf (ao BM aJ))))) (.k [0,1,2] (.n (.n (.n (.t (.bw [3,5] ⟨[ai 6],[(6,eU)]⟩) (.t (.x [] ⟨[ai 6,(46,.v .bool)],[(6,eU)]⟩) .l .l) (.n (.t .none (.d [.a,.a,.a,.a,.a,.a,.a,.c [1954] [1952],.c [1954,1986] [1952,1984,1953],.c [322] [320],.c [322,1986] [320,1984,1985]]) (.t .none (.n (.o (.k [3,5,64,65] (.p ⟨[ai 6,ai 10,aT 66],[(6,eU),(10,eU)]⟩ (.x 0 ⟨[ai 6,ai 10],[(6,eU),(10,eU)]⟩) (.n (.n (.t .none (.o (.n (.d [.b [322,332],.b [332],.a,.b [386],.a,.b [332,334],.c [334] [320]]))) .l))))))) (.t .none (.n (.o (.k [3,5,79] (.p ⟨[ai 6,ai 10,aT 80],[(6,eU),(10,eU)]⟩ (.bw 2 ⟨[ai 6,ai 10],[(6,eU),(10,eU)]⟩) (.n (.n (.t .none (.o (.n (.n (.o (.k [13,80,84] (.p ⟨[ai 6,ai 10,aT 85],[(6,eU),(10,eU)]⟩ (.bw 4 ⟨[ai 6,ai 10],[(6,eU),(10,eU)]⟩) (.n (.n (.t .none (.o (.n (.n (.t .none (.d [.b [322,332],.b [332],.a,.b [322,332],.b [332],.a,.b [332,334],.b [334],.a,.a,.a,.a,.a,.a,.a,.a,.a,.a,.a,.b [332,334],.c [334] [320]]) .l)))) .l))))))))) .l))))))) .l))))))))) func187 call187 [(3,(.ptr .bx pd)),(5,(.ptr .bx pd)),(6,jQ),(20,jQ),(26,jQ),(47,jQ),(53,jQ),(61,jt),(10,jQ),(12,bv),(127,jQ)]
def NS:aF:=⟨115,[.v wc,.v hW,.v lI,.v (.a6 .dk pd)],[jQ,aE],zK⟩
theorem WO:aD E NS:=
 .q (ao Xp (ao K0 (ao KJ aJ))) (.k [0,1,2,3] (.n (.n (.n (.t .none (.n (.o (.k [5,10] (.p ⟨[ai 8,ai 11,aT 12],[(8,eU),(11,eU)]⟩ (.x 0 ⟨[ai 8,ai 11],[(8,eU),(11,eU)]⟩) (.n (.t .none (.o (.n (.o (.k [12,41,42] (.p ⟨[ai 8,ai 11,aT 43],[(8,eU),(11,eU)]⟩ (.x 2 ⟨[ai 8,ai 11],[(8,eU),(11,eU)]⟩) (.n (.n (.t (.x [43] ⟨[ai 8,ai 11],[(8,eU),(11,eU)]⟩) .l .l)))))))) .l)))))) (.t .none (.n (.o (.k [5,80,81] (.p ⟨[ai 8,ai 11,aT 82],[(8,eU),(11,eU)]⟩ (.bw 4 ⟨[ai 8,ai 11],[(8,eU),(11,eU)]⟩) (.n (.n (.t .none (.o (.n (.n (.t .none (.n (.o (.k [16,82,94,95] (.p ⟨[ai 8,ai 11,ai 18,aT 96],[(8,eU),(11,eU),(18,bO)]⟩ (.x 6 ⟨[ai 8,ai 11,ai 18],[(8,eU),(11,eU),(18,bO)]⟩) .l)))) (.n (.t .none (.d [.b [352,354],.b [577],.a,.a,.a,.a,.c [352,3712000,578] [3712000],.b [3712000],.b [3712001],.a,.c [354,3712002] [352,3712000,3712001],.a]) .l)))))) .l))))))) .l)))))) func115 call115 [(5,(.ptr .bx hW)),(8,jQ),(30,jt),(11,jQ),(15,bv),(17,hW),(18,bO),(120,jQ)]
def PU:aF:=⟨239,[.v (.ptr .dk (.st (.pr pd (.pr yX (.pr (.a6 .dk bv) .nil))))),.v aE,.v aE,.v aE],[bv],ur⟩
theorem Lf:aD E PU:=
 .q (ao KY (ao KI (ao KH aJ))) (.k [0,1,2,3] (.n (.t .none (.d [.a,.a,.a,.a,.a,.a,.a,.a,.a,.a,.a,.a,.a,.a,.a,.a,.c [866] [864],.c [290,866] [288,864,289,865]]) (.t .none (.n (.o (.k [28] (.p ⟨[ai 8,ai 9,aT 29],[(8,g3),(9,jt)]⟩ (.x 0 ⟨[ai 8,ai 9],[(8,g3),(9,jt)]⟩) (.n (.n (.t .none (.o (.n (.d [.b [289],.a,.a,.a,.a,.a,.a,.a,.a,.a,.a,.a,.a,.a,.a,.a,.a,.a,.a,.a,.a,.a,.a,.a,.a,.a,.a,.a,.a,.a,.a,.a,.a,.c [2082] [2080],.c [290,2082,2114] [288,2112,289,2113],.c [290,2114] [288,2112,289,2113]]))) .l))))))) .l)))) func239 call239 [(8,bv)]
def PW:aF:=⟨240,[.m ql,.v aE,.v aE,.v bD],[.bool],wB⟩
theorem XT:aD E PW:=
 .q (ao BY (ao Fu aJ)) (.k [1,2,3] (.n (.t .none (.d [.b [1],.b [2],.b [2,8],.b [8,10],.b [10],.a,.b [1],.b [2],.b [2,4],.b [4,6],.b [6],.a,.a,.a,.b [1],.b [2],.b [2,12],.b [12],.a,.b [1],.b [2],.b [2,4],.b [4,6],.b [6],.a,.a,.a,.a,.a,.a,.b [10],.c [10] [0],.b [12,14],.c [14] [0]]) .l))) func240 call240
def O5:aF:=⟨189,[.m ql,.v aE],[aE],zv⟩
theorem Xq:aD E O5:=
 .q (ao BY (ao BX (ao XT (ao Lf (ao BV (ao KO (ao KM (ao KL aJ)))))))) (.k [1] (.n (.n (.n (.n (.n (.n (.n (.t .none (.n (.o (.k [6] (.p ⟨[ai 0,aT 7],[(0,ql)]⟩ (.bw 0 ⟨[ai 0],[(0,ql)]⟩) .l)))) .l))))))))) func189 call189 [(5,bv)]
def O7:aF:=⟨190,[.v (.ptr .dk (.st (.pr pd (.pr yX (.pr (.a6 .dk bv) .nil))))),.v aE],[jQ,aE],zw⟩
theorem Xs:aD E O7:=
 .q (ao Lf (ao BV (ao BM aJ))) (.k [0,1] (.n (.n (.n (.t .none (.n (.o (.k [6,25] (.p ⟨[ai 4,ai 7,aT 26],[(4,eU),(7,eU)]⟩ (.bw 0 ⟨[ai 4,ai 7],[(4,eU),(7,eU)]⟩) (.n (.n (.t .none (.o (.n (.n (.o (.k [8,26] (.p ⟨[ai 4,ai 7,aT 9],[(4,eU),(7,eU)]⟩ (.bw 2 ⟨[ai 4,ai 7],[(4,eU),(7,eU)]⟩) (.n (.t .none (.o (.n (.n (.n (.d [.b [226,236],.b [236],.a,.a,.a,.a,.a,.b [322],.a,.b [236,238],.c [238] [224]]))))) .l)))))))) .l))))))) .l))))) func190 call190 [(4,jQ),(23,jt),(7,jQ),(10,bv),(47,jQ)]
def NT:aF:=⟨116,[.v h7,.v aE,.v aE],[pb,h7,aE,aE],zu⟩
theorem WP:aD E NT:=
 .q (ao Xs (ao Xq (ao K1 aJ))) (.k [0,1,2] (.n (.n (.t (.x [] ⟨[ai 3,ai 6,ai 7,aT 10],[(3,(.optr h7)),(6,tZ),(7,(.optr h7))]⟩) (.o (.n (.n (.t (.x [10] ⟨[ai 3,ai 6,ai 7,(22,.v .bool)],[(3,(.optr h7)),(6,tZ),(7,(.optr h7))]⟩) .l .l)))) (.n (.n (.t .none (.d [.b [98],.a,.a,.a,.a,.a,.c [1730] [1728],.c [1730,1762] [1728,1760,1729],.a,.a,.a,.c [1890] [1888],.c [1762,1890,1922] [1760,1888,1920,1761,1889],.c [1922,1954] [1920,1952,1921],.c [386,1954] [384,1952,385,1953]]) (.t .none (.n (.o (.p ⟨[ai 6,ai 7,ai 12,aT 13],[(6,tZ),(7,(.optr h7)),(12,ql)]⟩ (.bw 1 ⟨[ai 6,ai 7,ai 12],[(6,tZ),(7,(.optr h7)),(12,ql)]⟩) (.n (.t .none (.o (.n (.o (.k [13] (.p ⟨[ai 6,ai 7,ai 12,aT 14],[(6,tZ),(7,(.optr h7)),(12,ql)]⟩ (.bw 3 ⟨[ai 6,ai 7,ai 12],[(6,tZ),(7,(.optr h7)),(12,ql)]⟩) .l))))) .l))))) (.n (.n (.t .none (.d [.b [385],.b [386],.b [386,392],.b [392],.b [514],.a,.c [194,392] [192,384,385],.c [226] [224],.a,.a]) .l))))))))))) func116 call116 [(55,pb),(6,pb),(7,h7),(43,pb),(54,(.osl bD)),(59,jt),(95,pb),(88,pb),(16,h7),(107,pb)] [(999999,103000)]
def NU:aF:=⟨117,[.m i9,.v hW,.v yX],[],zo⟩
theorem WQ:aD E NU:=
 .q (ao K0 aJ) (.k [1,2] (.n (.n (.o (.k [4,5] (.p ⟨[ai 0,aT 6],[(0,i9)]⟩ (.x 0 ⟨[ai 0],[(0,i9)]⟩) (.n (.t .none (.o (.n (.o (.k [6,24,25] (.p ⟨[ai 0,aT 26],[(0,i9)]⟩ (.x 2 ⟨[ai 0],[(0,i9)]⟩) (.n (.n (.t .none (.o (.n (.n (.d [.b [1],.b [2],.b [2,8],.b [8],.a,.b [1],.b [2],.b [2,8],.b [8],.a,.b [8,10],.b [10],.a,.a,.a,.a,.a,.a,.a,.a,.a,.a,.a,.a,.a,.c [1890] [1888],.c [1920,1890,10] [1920,3,9],.b [8,10],.c [1920,10] [0,1920,1921]])))) .l)))))))) .l)))))))) func117 call117 [(4,(.ptr .bx hW)),(5,(.ptr .bx yX))]
def QQ:aF:=⟨48,[.v hV,.v eA,.v lI],[pc,aE,aE],sk⟩
theorem YF:aD E QQ:=
 .q (ao Lq (ao Lp (ao Lo (ao WQ (ao WP (ao WO (ao WN aJ))))))) (.k [0,1,2] (.n (.n (.n (.n (.t .none (.n (.o (.k [9,44,45] (.p ⟨[ai 6,aT 46],[(6,r6)]⟩ (.bw 0 ⟨[ai 6],[(6,r6)]⟩) .l)))) (.n (.t .none (.d [.a,.a,.c [1922] [1920],.a,.a,.c [2018] [2016],.c [482,1922] [480,1920,481,1921],.c [514,2018] [512,2016,513,2017]]) (.t .none (.n (.o (.k [9,64,65] (.p ⟨[ai 6,ai 14,ai 15,ai 16,aT 66],[(6,r6),(14,i9),(15,(.osl (.osl hW))),(16,(.osl (.osl h7)))]⟩ (.bw 2 ⟨[ai 6,ai 14],[(6,r6),(14,i9)]⟩) (.n (.n (.t (.bw [66] ⟨[ai 6,ai 14,ai 15,ai 16],[(6,r6),(14,i9),(15,(.osl (.osl hW))),(16,(.osl (.osl h7)))]⟩) (.o (.n (.t .none (.d [.a,.b [578],.b [481],.a,.b [480,482],.b [480],.b [513],.a,.b [512,514],.b [512],.c [480,512,2656000] [2656000],.b [2656000],.b [2656001],.a,.c [610] [608],.c [610,2656002] [608,2656000,2656001],.a]) (.n (.n (.t .none (.n (.t .none (.t .none (.d [.a,.b [578,580],.b [580],.a,.a,.a,.c [194] [192],.a,.a]) .l) .l)) (.n (.n (.n (.t .none (.d [.b [481],.b [578,592],.b [592],.b [513],.b [578,592],.b [592],.b [481],.b [578,592],.b [592],.b [480,482],.b [480],.b [578],.c [4226] [4224],.c [480,4256,4226] [480,4256],.b [513],.b [578,592],.b [592],.b [512,514],.b [512],.b [706],.c [4482] [4480],.c [512,4512,4482] [512,4512],.b [480,482],.c [480,4256] [480,4256,4257],.b [512,514],.c [512,4512] [512,4512,4513]]) .l)))))))))) .l))))))) (.t .none (.d [.b [449],.a,.c [450,4706] [4704],.a,.a,.a,.a,.c [194,4706] [192,4704,4705],.a,.a]) .l)))))))))) func48 call48 [(60,(.osl (.osl hW))),(63,(.osl (.osl h7))),(3,kE),(6,pc),(13,hW),(18,hW),(19,h7),(21,CT),(22,h7),(132,(.osl hW))] [(999999,147),(999999,83000),(999999,97000)]
def tJ:aF:=⟨8,[.v jP,.v aE,.v aE,.v .bool,.v jP],[.bool],DI⟩
theorem YO:aD E tJ:=
 .q (ao YF (ao YE (ao W6 (ao KN (ao WR (ao WM aJ)))))) (.k [0,1,2,3,4] .l) func8 call8 [(11,kk),(13,(.a6 .bx (.st (.pr aE (.pr aE (.pr fg (.pr aE .nil))))))),(14,pc),(17,pc)] [(13,31)]
end
def aQ (a:Nat):Int:=4294967296^a
def ag:ab1->Int
 |[]=>0
 |x::a=>x+4294967296*ag a
def aS (b:ab1):Prop:=∀a∈b,0<=a/\a<4294967296
theorem aS.nil:aS []:=λ_ a=>by cases a
theorem aS.cons:aS (e::b)↔(0<=e/\e<4294967296)/\aS b:=by
 constructor
 ·exactλd=>⟨d e (iH ..),λc a=>d c (e0 _ a)⟩
 ·rintro⟨f,g⟩ c a;rcases dh.1 a with rfl|a
  ·exact f
  ·exact g c a
theorem aS.append {d:ab1}:aS (b++d)↔aS b/\aS d:=by
 constructor
 ·exactλe=>⟨λc a=>e c (m7 _ a),λc a=>e c (k4 _ a)⟩
 ·rintro⟨f,g⟩ c a;rcases eH.1 a with a|a
  ·exact f c a
  ·exact g c a
theorem aS.snoc (a:aS b) (c:0<=e) (d:e<4294967296):aS (b++[e]):=
 aS.append.2 ⟨a,aS.cons.2 ⟨⟨c,d⟩,aS.nil⟩⟩
theorem aS.take {a:ab1} (b:aS a) (d:Nat):aS (a.take d):=λe c=>b e (List.mem_of_mem_take c)
theorem aS.drop {a:ab1} (b:aS a) (d:Nat):aS (a.drop d):=λe c=>b e (List.mem_of_mem_drop c)
theorem aS.m0 (b:Nat):aS (List.replicate b (0:Int)):=λc a=>by obtain⟨_,rfl⟩:=List.mem_replicate.1 a;exact⟨qb _,aa⟩
theorem aS.set {c:ab1} (d:aS c) {g:Nat} {b:Int} (e:0<=b) (f:b<4294967296):aS (c.set g b):=λh a=>by
 rcases List.mem_or_eq_of_mem_set a with a|rfl
 ·exact d h a
 ·exact⟨e,f⟩
theorem aS.get (a:aS b) {n:Nat} (c:n<b.length):0<=b[n]/\b[n]<4294967296:=a _ (bI c)
theorem fb (a:Nat):0<aQ a:=m3 aa
theorem g6 (a:Nat):aQ (a+1)=4294967296*aQ a:=by unfold aQ;rw[Int.pow_succ,il]
theorem vM (a b:Nat):aQ (a+b)=aQ a*aQ b:=kh ..
theorem vN:aQ 0=1:=rfl
theorem nI (a b:ab1):ag (a++b)=ag a+aQ a.length*ag b:=by
 induction a with
 |nil=>simp[ag,vN]
 |cons d a c=>
  simp only[jm,ag,h5,g6,c];grind
theorem oH (a:ab1) (b:Int):ag (a++[b])=ag a+aQ a.length*b:=by rw[nI];simp[ag]
theorem eB {l:ab1} (a:aS l):0<=ag l:=by
 induction l with
 |nil=>exact qb _
 |cons c l b=>
  have a:=aS.cons.1 a;have:=b a.2;simp only[ag];omega
theorem gE (a:aS b):ag b<aQ b.length:=by
 induction b with
 |nil=>decide
 |cons d b c=>
  have a:=aS.cons.1 a;have:=c a.2;simp only[ag,h5,g6];omega
theorem hF (c:a<b.length):ag (b.take (a+1))=ag (b.take a)+aQ a*b[a]:=by rw[jo,be c];show ag (b.take a++[b[a]])=_;rw[oH,eC,gm U]
theorem oI (b:ab1) (a:Nat) (c:a<=b.length):ag b=ag (b.take a)+aQ a*ag (b.drop a):=by
 conv=>lhs;rw[<-lG a b]
 rw[nI,eC,gm c]
theorem kt (c:a<b.length):ag (b.drop a)=b[a]+4294967296*ag (b.drop (a+1)):=by rw[List.drop_eq_getElem_cons c];rfl
theorem rD (a:Nat):ag (List.replicate a (0:Int))=0:=by
 induction a with
 |zero=>rfl
 |succ a b=>simp only[List.replicate_succ,ag,b];rfl
theorem nJ (c:a<b.length) (d:Int):ag (b.set a d)=ag b+aQ a*(d-b[a]):=by
 induction b generalizing a with
 |nil=>simp at c
 |cons f b e=>
  cases a with
  |zero=>simp only[List.set_cons_zero,ag,vN,List.getElem_cons_zero];grind
  |succ a=>
   simp only[List.set_cons_succ,ag,List.getElem_cons_succ,g6];rw[e (by simpa using c)];grind
def sI:Nat->Nat->ab1
 |0,_=>[]
 |f+1,a=>if a=0 then[] else((a %4294967296:Nat):Int)::sI f (a/4294967296)
def b0 (a:Nat):ab1:=sI (Nat.log2 a+1) a
def dQ (b:ab1):Prop:=∀a,b.getLast?=some a->a≠0
theorem TF:∀{a n:Nat},n<2^a->aS (sI a n)/\ag (sI a n)=n/\dQ (sI a n):=by
 intro a
 induction a with
 |zero=>
  intro n b;obtain rfl:n=0:=(by simpa using b);exact⟨aS.nil,rfl,λf b=>by cases b⟩
 |succ a j=>
  intro n b;unfold sI;split
  ·rename_i h;subst h;exact⟨aS.nil,rfl,λf b=>by cases b⟩
  rename_i k;obtain⟨i,d,g⟩:=j (n:=n/4294967296) (by rw[jO] at b;omega);refine⟨aS.cons.2 ⟨⟨U,U⟩,i⟩,?_,?_⟩
  ·simp only[ag,d];omega
  ·intro f c;cases e:sI a (n/4294967296) with
   |nil=>
    rw[e] at c d;simp only[ag] at d;simp only[List.getLast?_singleton,bH] at c;omega
   |cons m l=>
    rw[e,List.getLast?_cons_cons] at c;rw[e] at g;exact g f c
theorem DT (a:Nat):aS (b0 a)/\ag (b0 a)=a/\dQ (b0 a):=TF Nat.lt_log2_self
theorem jz (a:Nat):aS (b0 a):=(DT a).1
theorem jW (a:Nat):ag (b0 a)=a:=(DT a).2.1
theorem mE (a:Nat):dQ (b0 a):=(DT a).2.2
theorem dQ.tail (c:dQ (e::b)):dQ b:=λd a=>by
 cases b with
 |nil=>cases a
 |cons f b=>exact c d (by rw[List.getLast?_cons_cons];exact a)
theorem dQ.zero (e:aS b) (c:dQ b) (d:ag b=0):b=[]:=by
 induction b with
 |nil=>rfl
 |cons h b g=>
  obtain⟨⟨i,j⟩,a⟩:=aS.cons.1 e;have k:=eB a;simp only[ag] at d;have f:h=0:=U;have:=g a c.tail U;subst this;subst f;exact absurd rfl (c 0 rfl)
theorem dQ.uniq:∀{a b:ab1},aS a->aS b->dQ a->dQ b->ag a=ag b->a=b
 |[],b,_,e,_,g,c=>(dQ.zero e g (by rw[<-c];rfl)).symm
 |a,[],d,_,f,_,c=>dQ.zero d f (by rw[c];rfl)
 |x::a,k::b,d,e,f,g,c=>by obtain⟨⟨l,m⟩,h⟩:=aS.cons.1 d;obtain⟨⟨n,o⟩,i⟩:=aS.cons.1 e;simp only[ag] at c;have j:x=k:=U;have:=dQ.uniq h i f.tail g.tail U;rw[j,this]
theorem TI (c:aS b) (d:dQ b) (e:ag b=a):b=b0 a:=
 dQ.uniq c (jz a) d (mE a) (by rw[e,jW])
theorem dQ.eq (a:aS b) (c:dQ b):b=b0 (ag b).toNat:=
 TI a c (by have:=eB a;omega)
theorem dQ.low (c:aS b) (f:dQ b) (a:b≠[]):aQ (b.length-1)<=ag b:=by have d:=List.dropLast_concat_getLast a;have i:=f (b.getLast a) (List.getLast?_eq_some_getLast a);have j:=c _ (List.getLast_mem a);rw[<-d,oH];have k:=eB (l:=b.dropLast) (λh g=>c h (List.dropLast_subset _ g));have e:1<=b.getLast a:=U;have m:=ke e (eR (fb b.dropLast.length));simp only[nP,yM,v7];omega
theorem Zn {c:Nat} (e:a<c):aQ a<aQ c:=by obtain⟨b,rfl⟩:∃b,c=a+(b+1):=⟨c-a-1,U⟩;rw[vM,g6];have f:=fb b;have d:=fb a;have g:1*aQ a<(4294967296*aQ b)*aQ a:=vT U d;grind
theorem nA {m n:Nat} (b:m<=n):aQ m<=aQ n:=by
 rcases bb m n with a|a
 ·exact eR (Zn a)
 ·obtain rfl:m=n:=U;exact qb _
theorem qN {n k:Nat} (d:(n:Int)<aQ k):(b0 n).length<=k:=by
 by_cases b:b0 n=[]
 ·rw[b];exact bN _
 have c:=dQ.low (jz n) (mE n) b;rw[jW] at c;rcases bb k (b0 n).length with a|a
 ·have:=nA (m:=k) (n:=(b0 n).length-1) U;omega
 ·exact a
theorem II (a:Nat):(a:Int)<aQ (b0 a).length:=by have:=gE (jz a);rwa[jW] at this
theorem IJ:b0 0=[]:=rfl
theorem DS:b0 a=[]↔a=0:=by
 constructor
 ·intro b;have:=jW a;rw[b] at this;simp only[ag] at this;omega
 ·rintro rfl;rfl
def gX (a:ab1):ab1:=b0 (ag a).toNat
theorem M2 (g:aS b) (h:a<=b.length) (f:∀c,a<=c->(j:c<b.length)->b[c]=0) (i:dQ (b.take a)):b.take a=gX b:=by have d:ag b=ag (b.take a):=(by have e:b.drop a=List.replicate (b.length-a) 0:=(by refine List.ext_getElem ac λc d e=>?_;rw[List.getElem_drop,List.getElem_replicate];exact f _ U _);rw[oI b a h,e,rD];simp);rw[gX,d];exact dQ.eq (g.take a) i
theorem MZ (a:ab1):aS (gX a):=jz _
theorem M0 (a:ab1):dQ (gX a):=mE _
theorem M1 (a:aS b):ag (gX b)=ag b:=by have:=eB a;rw[gX,jW];omega
theorem UI {b d:List c} (g:b.length=d.length) (f:∀a,a<b.length->b[a]?=d[a]?):b=d:=by
 apply gY;intro a;rcases bb a b.length with e|e
 ·exact f a e
 ·rw[fu e,fu U]
theorem vV (a c:ab1) (o:a.length<4611686018427387904):sw (a,c,())=some (a==c,()):=by
 rw[<-ae.eq_iff];unfold sw;simp only[ae.bV,ae.bW,ae.af];refine⟨λd=>?_,λd=>?_⟩
 ·simp at d;have:a≠c:=λf=>d (by rw[f]);simp[this]
 ·simp at d;have m:a.length=c.length:=U;refine ae.for (i0:=0) a.length (λe _=>∀b,b<e->a[b]?=c[b]?) rfl ac (bN _) ?_ ?_
  ·intro e n _ k g;simp only[ae.bV,ae.bW,ae.af,ae.hJ];refine⟨λ_=>⟨k,U,λl=>?_,λj=>?_⟩,λh=>?_⟩
   ·simp at l;have:a≠c:=λf=>l (by simp[f]);simp[this]
   ·refine⟨fE U,λb p=>?_⟩;rcases bb b e with i|i
    ·exact g b i
    ·obtain rfl:b=e:=U;simp at j;rw[be k,be U,j]
   ·simp at h;omega
  ·intro n g;simp only[ae.bV,ae.bW,ae.af];refine⟨λh=>by simp at h,λ_=>?_⟩;simp[UI m g]
theorem mW {b:List c} (d:a<b.length):b.take a++[b[a]]=b.take (a+1):=by rw[jo,be d];rfl
theorem x8:b.Pairwise (· < ·)↔∀d,(e:d+1<b.length)->b[d]<b[d+1]:=by
 constructor
 ·intro e d k;exact(gx.1 e) d (d+1) U k U
 ·intro e;rw[gx];have m:∀c a (f:a<b.length) (g:a+c+1<b.length),b[a]<b[a+c+1]:=by
   intro c
   induction c with
   |zero=>intro a f g;exact e a g
   |succ c l=>
    intro a f g;have i:=l a f U;have j:=e (a+c+1) U;exact Int.lt_trans i j
  intro a h f g n;obtain⟨c,rfl⟩:∃c,h=a+c+1:=⟨h-a-1,U⟩;exact m c a f g
theorem Nz (b:ab1) (r:b.length<4611686018427387904):Ao (b,())=some (decide (b.Pairwise (· < ·)),()):=by
 rw[<-ae.eq_iff];unfold Ao;simp only[ae.bW];by_cases k:b.length=0
 ·have:b=[]:=CN.1 k;subst this;refine ae.loop (λo=>o=(1,())) (λ_=>0) rfl ?_;rintro _ rfl;simp[ae.af]
 ·refine ae.for (i0:=1) b.length (λc _=>∀a,(j:a+1<b.length)->a+1<c->b[a]<b[a+1]) rfl (λa _ j=>by omega) U ?_ ?_
  ·rintro c _ p l e;simp only[ae.bV,ae.bW,ae.af,ae.hJ];have i:IntKind.i64.wrap ((c:Int)-1)=((c-1:Nat):Int):=(by rw[wrap64 U U];omega);rw[i];refine⟨λ_=>⟨l,?_⟩,λf=>?_⟩
   ·rw[ae.hJ];refine⟨U,?_⟩;refine⟨λm=>?_,λh=>⟨fE U,λa d q=>?_⟩⟩
    ·have:¬b.Pairwise (· < ·):=λn=>by
      have:=x8.1 n (c-1) U;simp only[(U:c-1+1=c)] at this;simp at m;omega
     simp[this]
    ·rcases bb (a+1) c with g|g
     ·exact e a d g
     ·obtain rfl:c=a+1:=U;simp at h;exact h
   ·simp at f;omega
  ·intro s e;simp only[ae.bV,ae.bW,ae.af];refine⟨λf=>by simp at f,λ_=>?_⟩;have:b.Pairwise (· < ·):=x8.2 (λa d=>e a d d);simp[this]
def mark (a:abX) (c:ab1):abX:=c.foldl (λa b=>a.set b.toNat true) a
end Go.hT
end
