/-
  Parts of the proof: Fw25, Fw36, Fw46, Fw47, Pl1, Fs, Dn20, TwS, Dn20b, Dn22, Dn24a, Dn24, Tw24, Ok24, Pa1, Pl2, Pl3, Pl5, Th1, Pl6, Pl7, Pl8, Pl9, Pl10, Pl12, ThT, Pa2, Pa3, Pa4, Pa5, Pa6, Pa7, Pa8: the framework (Fw), pure forms (Dn), plain laws (Pl, Th), calls of functions (Ok).
-/
import Derived.ProofKit
import Derived.Handed
import Derived.KernelRfl
import Derived.Lib.SlicesCompact
import Derived.RangeFuncBox
import Derived.RangeFuncLeaves
import Derived.Shelf.Abstract
import Derived.WalkKit
import Derived.OwnWalkIn
import Derived.TacticsInMore
import Derived.LoopNIn
import Derived.LoopIn
import Derived.Maps.AppendAt
import Derived.Shelf.Slices.CompactI
import Derived.Lib.OwnBridge
import Derived.Test.YtkhcdgkdpjahpaaGreatDoorProg
import Derived.Test.YtkhcdgkdpjahpaaGreatDoorB6da3554a

set_option linter.all false
set_option maxHeartbeats 1000000
noncomputable section
namespace Go.hX
variable{a b f:Nat}{c n:Int}{d i:cQ}{e:Type}{g:Nat->Nat->Prop}{h:Nat->Prop}{j:cF}{k:Value}{l:List eV}{m:List ae}{o:Prop}{p:World}{r:List ResultVar}{s:Bool}{t:bI->Nat->Prop}{u:Func}
section
def kt:Nat->(f:List eV)->eY f->List (Nat×ah)
 |_,[],_=>[]
 |k,.v g::b,a=>(k,.val g a.1)::kt (k+1) b a.2
 |k,.m _::b,a=>(k,.ref k [])::kt (k+1) b a.2
 |k,.o _::b,a=>(k,.ref k [])::kt (k+1) b a.2
 |k,.c e h::b,a=>(k,.bY e ((gA h a.1).map λd=>.val d.1 d.2))::kt (k+1) b a.2
 |k,.n::b,a=>(k,.bu (.slice none 0 0))::kt (k+1) b a.2
 |k,.w _::b,a=>(k,.view k [] a.1.2.1 a.1.2.2)::kt (k+1) b a.2
 |k,.s _ _::b,a=>kt (k+1) b a.2
def ku:Nat->(e:List eV)->eY e->List (Nat×ay)
 |_,[],_=>[]
 |k,.v _::b,a=>ku (k+1) b a.2
 |k,.m d::b,a=>(k,⟨d,a.1⟩)::ku (k+1) b a.2
 |k,.o d::b,a=>(k,⟨d,a.1⟩)::ku (k+1) b a.2
 |k,.c _ _::b,a=>ku (k+1) b a.2
 |k,.n::b,a=>ku (k+1) b a.2
 |k,.w f::b,a=>(k,⟨.osl f,a.1.1⟩)::ku (k+1) b a.2
 |k,.s _ _::b,a=>ku (k+1) b a.2
def hk:Nat->List eV->cP
 |_,[]=>[]
 |k,.m _::a=>k::hk (k+1) a
 |k,.v _::a=>hk (k+1) a
 |k,.o _::a=>hk (k+1) a
 |k,.c _ _::a=>hk (k+1) a
 |k,.n::a=>hk (k+1) a
 |k,.w _::a=>k::hk (k+1) a
 |k,.s _ _::a=>hk (k+1) a
def zY {r:Type}:∀{k:Nat} {ps:List eV} {a:eY ps} {b:gm ps r},g6 k (ef ps a b)=kt k ps a/\hz k (ef ps a b)=ku k ps a/\fg k (ef ps a b)=hk k ps/\(ef ps a b).length=ps.length
 |k,[],a,b=>⟨rfl,rfl,rfl,rfl⟩
 |k,i::h,a,b=>by
  have g:=λa b=>zY (r:=r) (k:=k+1) (ps:=h) (a:=a) (b:=b);cases i
  case m=>
   obtain⟨c,d,e,f⟩:=g a.2 b.2;simp only[ef,g6,hz,fg,kt,ku,hk,g2,c,d,e,f,and_self]
  case w=>
   obtain⟨c,d,e,f⟩:=g a.2 b.2;simp only[ef,g6,hz,fg,kt,ku,hk,g2,c,d,e,f,and_self]
  all_goals obtain⟨c,d,e,f⟩:=g a.2 b;simp only[ef,g6,hz,fg,kt,ku,hk,g2,c,d,e,f,and_self]
def za (tt:List (TypeId×ae)) (e:aA) (b:ae):ResultVar->Option (b.den×cP)
 |.tmp k=>match gt e.g k with
  |.val _ l=>(fD b l).bind λa=>some (a,[])
  |.bu f=>bif mQ b f then(gw b f.cells.toList).bind λa=>some (a,[]) else none
  |.ref id d=>match ai e.h id with
   |some c=>(fo c.1 c.2 d b).bind λa=>some (a,[id])
   |none=>none
  |_=>none
 |.cell j i=>match ai tt i with
  |some m=>bif aS m b then match gt e.g j with
   |.ref id d=>match ai e.h id with
    |some c=>match dp c.1 d with
     |some (.optr _)=>(fo c.1 c.2 (d++[.deref]) b).bind λa=>some (a,[id])
     |_=>none
    |none=>none
   |_=>none else none
  |none=>none
def y9 (tt:List (TypeId×ae)) (c:aA):List ResultVar->(a:List ae)->Option (iT a×cP)
 |[],[]=>some ((),[])
 |r::f,e::a=>bif e.dS then(za tt c e r).bind λd=>(y9 tt c f a).map λb=>((d.1,b.1),d.2++b.2) else none
 |_,_=>none
theorem RD {E:dA} {f:aA} {c:ae} {b:ResultVar} {d:c.den×cP} (a:za E.tt f c b=some d):oN E.P f ⟨c,d.1⟩ b d.2:=by
 cases b with
 |tmp b=>
  simp only[za] at a;simp only[oN];split at a
  ·grind [hO,Option.bind_eq_some_iff]
  ·grind [Option.bind_eq_some_iff,mQ.ok]
  ·grind [gi,Option.bind_eq_some_iff]
  grind
 |cell j h=>
  simp only[za] at a;simp only[oN];split at a
  case h_2=>cases a
  rename_i g i;cases e:aS g c with
  |false=>grind
  |true=>
  rw[e] at a;refine⟨(E.ok h g i).lay e,?_⟩;simp only[cond_true] at a;grind [gi,Option.bind_eq_some_iff]
theorem HA {E:dA} {f:aA}:∀{d:List ResultVar} {c:List ae} {b:iT c×cP},y9 E.tt f d c=some b->qd E.P f d (gA c b.1) b.2
 |[],[],b,a=>by cases a;rfl
 |[],_::_,b,a=>by cases a
 |_::_,[],b,a=>by cases a
 |r::d,k::c,b,a=>by
  simp only[y9] at a;cases e:k.dS with
  |false=>grind
  |true=>
  rw[e] at a;simp only[cond_true] at a;obtain⟨j,h,a⟩:=bP.1 a;obtain⟨i,g,rfl⟩:=dE.1 a;exact⟨e,j.2,i.2,rfl,RD h,HA g⟩
def l5 (
 st:aA) {t:Type} (d:Option t):Nat->(r:List eV)->eY r->Option (gm r t)
 |_,[],_=>d
 |k,.v _::b,a=>l5 st d (k+1) b a.2
 |k,.o _::b,a=>l5 st d (k+1) b a.2
 |k,.c _ _::b,a=>l5 st d (k+1) b a.2
 |k,.n::b,a=>l5 st d (k+1) b a.2
 |k,.s _ _::b,a=>l5 st d (k+1) b a.2
 |k,.m l::b,a=>bif oX (.ref k []) (gt st.g k)&&(l.dS&&oy l) then match ai st.h k with
  |some j=>match fD l j.2 with
   |some e=>(l5 st d (k+1) b a.2).map λi=>(e,i)
   |none=>none
  |none=>none else none
 |k,.w f::b,a=>match gt st.g k with
  |.view u [] q p=>bif Nat.beq k u&&f.dS then match ai st.h k with
   |some j=>match fD (.osl f) j.2 with
    |some e=>bif Nat.beq q a.1.2.1&&(Nat.beq p a.1.2.2&&(Nat.beq (List.length (α:=f.den) e) (List.length (α:=f.den) a.1.1)&&Nat.blt q p)) then(l5 st d (k+1) b a.2).map λi=>(e,i) else none
    |none=>none
   |none=>none else none
  |_=>none
theorem pC {y:aA} {C:Type} {B:Option C}:∀{k:Nat} {ps:List eV} {a:eY ps} {d:gm ps C},l5 y B k ps a=some d->mF y k (ef ps a d)/\B=some (fM ps d)
 |k,[],a,d,b=>⟨trivial,b⟩
 |k,.v _::e,a,d,b=>pC (ps:=e) b
 |k,.o _::e,a,d,b=>pC (ps:=e) b
 |k,.c _ _::e,a,d,b=>pC (ps:=e) b
 |k,.n::e,a,d,b=>pC (ps:=e) b
 |k,.s _ _::e,a,d,b=>pC (ps:=e) b
 |k,.m E::e,a,d,b=>by
  simp only[l5] at b;cases f:(oX (.ref k []) (gt y.g k)&&(E.dS&&oy E)) with
  |false=>grind
  |true=>
  rw[f] at b;simp only[a2] at f;simp only[cond_true] at b;split at b
  case h_2=>cases b
  rename_i J t;split at b
  case h_2=>cases b
  rename_i D u;obtain⟨I,r,rfl⟩:=dE.1 b;obtain⟨j,l⟩:=pC (a:=a.2) r;refine⟨⟨⟨(oX.ok f.1).symm,?_,f.2.1,f.2.2⟩,j⟩,l⟩;rw[t];exact congrArg some (hO u)
 |k,.w z::e,a,d,b=>by
  simp only[l5] at b;split at b
  case h_2=>cases b
  rename_i H x q G;cases f:(Nat.beq k H&&z.dS) with
  |false=>grind
  |true=>
  rw[f] at b;simp only[a2] at f;obtain rfl:=dU f.1;simp only[cond_true] at b;split at b
  case h_2=>cases b
  rename_i J t;split at b
  case h_2=>cases b
  rename_i D u;cases p:(Nat.beq x a.1.2.1&&(Nat.beq q a.1.2.2&&(Nat.beq (List.length (α:=z.den) D) (List.length (α:=z.den) a.1.1)&&Nat.blt x q))) with
  |false=>grind
  |true=>
  rw[p] at b;simp only[a2] at p;obtain⟨h,i,F,A⟩:=p;have h:=dU h;have i:=dU i;have A:x<q:=ek A;obtain⟨I,r,rfl⟩:=dE.1 b;obtain⟨j,l⟩:=pC (a:=a.2) r;refine⟨⟨⟨by rw[G,h,i],?_,⟨f.2,U⟩,dU F⟩,j⟩,l⟩;rw[t];exact congrArg some (hO u)
def yj (tt:List (TypeId×ae)) (a:List eV) (f:List ResultVar) (d:List ae) (e:eY a) (c:aA):Option (gm a (iT d)):=
 match y9 tt c f d with
 |some b=>bif gX (hk 0 a++b.2) then l5 c (some b.1) 0 a e else none
 |none=>none
theorem ER {E:dA} {g:aA} {c:eY l} {d:gm l (iT m)} {e:Exit} (j:e=.normal\/e=.ret) (b:yj E.tt l r m c g=some d):C5 E.P (ef l c d) r (gA m (fM l d)) e g:=by
 unfold yj at b;split at b
 case h_2=>cases b
 rename_i f n;cases i:gX (hk 0 l++f.2) with
 |false=>grind
 |true=>
 rw[i] at b;simp only[cond_true] at b;obtain⟨h,k⟩:=pC (a:=c) b;refine⟨j,f.2,?_,?_,h⟩
 ·grind [HA,Option.some.inj]
 simp_all [zY]
def ES (tt:List (TypeId×ae)) (a:List eV) (e:List ResultVar) (c:List ae) (d:eY a):Exit->aA->Option (gm a (iT c))
 |.normal,b=>yj tt a e c d b
 |.ret,b=>yj tt a e c d b
 |_,_=>none
def u6 (c:eQ) (e:jJ) (f:Code) (a:List eV) (g:List ResultVar) (d:List ae) (b:eY a):Option (gm a (iT d)):=
 fF c e f ⟨kt 0 a b,ku 0 a b⟩ _ (ES c.tt a g d b)
section
variable {E:dA}
theorem aJ.Gv {e:eY l->Option (gm l (iT m))} (i:List (Nat×g1)) (p:List (Nat×ae)) (j:cR) (w:jJ) (aR:cI) (F:∀v∈aR,C4 E.P v) (D:E.P.funcs[f]?=some u) (O:u.body.isSome=true) (I:u.results=r.toArray) (R:Nat.ble l.length u.ntmps=true) (C:∀(q:cH) (s:World),(callFunc f q).run E.P s=.ok (.enter f q) s) (J:∀K∈i,aJ E K.2) (A:∀d,u6 ⟨E.tt,i,p,u.ntmps,hk 0 l++kP (g0 0 l),[],j,g0 0 l,aR,[],E.glob⟩ w (u.body.getD .skip) l r m d=e d):aJ E ⟨f,l,m,e⟩:=by
 refine⟨C,λd t n=>?_⟩;rw[show(g1.mk f l m e).tb d=e d from rfl,<-A d] at n;obtain⟨aj,y,z,N⟩:=zY (k:=0) (ps:=l) (a:=d) (b:=t);refine oB.O2 D (c:=u.body.getD .skip) (by cases Q:u.body with|none=>grind|some L=>rfl) I (by simp_all) ?_;intro M B g H o G;rw[aj,y];rw[vI] at g o;rw[z] at g;refine jz (ic:=⟨E.tt,i,p,u.ntmps,hk 0 l++kP (g0 0 l),[],j,g0 0 l,aR,[],E.glob⟩) ⟨rfl,B.symm,g.symm,⟨J,o,F,G,rfl⟩,mz.nil H⟩ n ?_;intro x S h;cases x with
 |normal=>exact ER (.inl rfl) h
 |ret=>exact ER (.inr rfl) h
 |_=>cases h
def aJ.of {fn:Func} {rs:List ResultVar} {h:eY l->Option (gm l (iT m))} (c:List (Nat×g1)) (g:List (Nat×ae)) (f:cR) (e:jJ) (o:E.P.funcs[a]?=some fn) (k:fn.body.isSome=true) (q:fn.results=rs.toArray) (p:Nat.ble l.length fn.ntmps=true) (n:∀(i:cH) (j:World),(callFunc a i).run E.P j=.ok (.enter a i) j) (r:∀s∈c,aJ E s.2) (b:∀d,u6 ⟨E.tt,c,g,fn.ntmps,hk 0 l++kP (g0 0 l),[],f,g0 0 l,[],[],E.glob⟩ e (fn.body.getD .skip) l rs m d=h d):aJ E ⟨a,l,m,h⟩:=
 aJ.Gv c g f e [] (λ_ b=>by cases b) o k q p n r b
def zg:Code->Code
 |.seq a _=>a
 |c=>c
def H8:Code->Code
 |.seq _ a=>a
 |c=>c
def rh (a:Nat):Code->Option (Array Oper)
 |.region d e _=>if d=a then some e else none
 |.seq b c=>(rh a b).orElse λ_=>rh a c
 |.cond _ b c=>(rh a b).orElse λ_=>rh a c
 |.block _ b=>rh a b
 |.loop b=>rh a b
 |_=>none
def A4 {b:eQ} {k:Type} {c:Array Oper} {f:cP} {d:aA->Option k}:∀(j:cP) (g:aA),ih b c (j++f) g d=ih b c j g λa=>ih b c f a d
 |[],g=>rfl
 |i::e,g=>by
  have h:(λa=>ih b c (e++f) a d)=λa=>ih b c e a λa=>ih b c f a d:=funext λa=>A4 e a;simp only[iA,ih];split
  ·rfl
  split
  ·rw[h]
  simp only[h,A4 e]
def MS {b:Program} {tt:List (TypeId×ae)} (i:∀c f,ai tt c=some f->dn b f c) {a:qh} {S:TypeId} (g:b.underlying a.T=some (.array a.xs.length S)) (h:ai tt S=some (.int a.k)):∀e∈[a],Dg b e:=λe d=>by rw[fe] at d;subst d;exact⟨S,g,i _ _ h⟩
def Iv:∀b∈([]:List (Nat×g1)),aJ E b.2:=λ_ a=>by cases a
theorem SV {c:g1} {d:List (Nat×g1)} (f:aJ E c) (g:∀b∈d,aJ E b.2):∀b∈(a,c)::d,aJ E b.2:=λb e=>by grind
end
def rx:Value->Value->Bool
 |.int c a,.int d b=>if c=d/\a=b then true else false
 |.bool a,.bool b=>a==b
 |.string a,.string b=>a.data.toList.isEmpty&&b.data.toList.isEmpty
 |.slice none 0 0,.slice none 0 0=>true
 |.map none,.map none=>true
 |.pointer none,.pointer none=>true
 |_,_=>false
def Km {a:ByteArray} (c:a.data.toList.isEmpty=true):a=ByteArray.empty:=by
 cases a with|mk b=>cases b with|mk d=>cases d with
  |nil=>rfl
  |cons=>cases c
theorem rx.ok {b:Value} (a:rx k b=true):k=b:=by
 unfold rx at a;split at a
 ·grind
 ·rw[beq_iff_eq.1 a]
 ·simp_all [Km,a2]
 ·rfl
 ·rfl
 ·rfl
 grind
def ry:cJ->cJ->Bool
 |[],[]=>true
 |a::c,b::d=>rx a b&&ry c d
 |_,_=>false
theorem ry.ok:∀{c d:cJ},ry c d=true->c=d
 |[],[],_=>rfl
 |[],_::_,b=>by cases b
 |_::_,[],b=>by cases b
 |a::c,e::d,b=>by simp only[ry,a2] at b;rw[rx.ok b.1,ry.ok b.2]
def hm (b:Program) (c:TypeId) (d:Nat) (f:Value):Bool:=match b.info? c with
 |some a=>Nat.beq a.size 1&&Nat.ble a.bytes d&&(match a.zero with|some e=>rx e f|none=>false)
 |none=>false
theorem hm.ok {d:Program} {e:TypeId} {f:Nat} {g:Value} (b:hm d e f g=true):∃a,d.info? e=some a/\a.size=1/\a.bytes<=f/\a.zero=some g:=by
 unfold hm at b;split at b
 case h_2=>cases b
 rename_i a j;simp only[a2] at b;obtain⟨⟨h,i⟩,c⟩:=b;split at c
 case h_2=>cases c
 rename_i l k;exact⟨a,j,dU h,ek i,by rw[k,rx.ok c]⟩
mutual
def fr (a:Program):ae->TypeId->Bool
 |.int g,b=>hm a b 24 (.int g 0)&&(match a.underlying b with|some (.int j)=>if j=g then true else false|_=>false)
 |.bool,b=>hm a b 24 (.bool false)&&(match a.underlying b with|some .bool=>true|_=>false)
 |.str,b=>hm a b 24 (.string ByteArray.empty)&&(match a.underlying b with|some .string=>true|_=>false)
 |.aU _ c,b=>hm a b 24 (.slice none 0 0)&&(match a.underlying b with|some (.slice d)=>fr a c d|_=>false)
 |.osl c,b=>hm a b 24 (.slice none 0 0)&&(match a.underlying b with|some (.slice d)=>fr a c d|_=>false)
 |.ptr _ c,b=>hm a b 24 (.pointer none)&&(match a.underlying b with|some (.pointer d)=>fr a c d|_=>false)
 |.optr c,b=>hm a b 24 (.pointer none)&&(match a.underlying b with|some (.pointer d)=>fr a c d|_=>false)
 |.mp c,b=>hm a b 24 (.map none)&&(match a.underlying b with|some (.map e d)=>(match a.underlying e with|some (.int .i64)=>fr a c d|_=>false)|_=>false)
 |.di _ c,b=>hm a b 24 (.map none)&&(match a.underlying b with|some (.map e d)=>(match a.underlying e with|some (.int .i64)=>fr a c d|_=>false)|_=>false)
 |.st c,b=>Nat.blt 0 c.size&&match a.info? b with
  |some f=>Nat.beq f.size c.size&&Nat.ble f.bytes (24*c.size)&&(match f.zero with
   |some (.agg h)=>Nat.beq h.size c.size&&(match a.underlying b with|some (.struct i)=>pf a c i.toList 0 h.toList|_=>false)
   |_=>false)
  |none=>false
 |_,_=>false
def pf (c:Program):ae->List Field->Nat->cJ->Bool
 |.pr a f,d::h,e,b=>Nat.beq d.offset e&&fr c a d.type&&Nat.blt 0 a.size&&(match c.info? d.type with|some g=>(match g.zero with|some i=>ry (b.take a.size) i.cells.toList|none=>false)|none=>false)&&pf c f h (e+a.size) (b.drop a.size)
 |.nil,[],_,b=>b.isEmpty
 |_,_,_,_=>false
end
mutual
theorem fr.ok {n:Program}:∀{o:ae} {i:TypeId},fr n o i=true->dn n o i
 |.int w,i,a=>by
  simp only[fr,a2] at a;obtain⟨c,b⟩:=a;obtain⟨e,ao,f,g,h⟩:=hm.ok c;split at b
  ·rename_i x d;split at b
   ·rename_i p;subst p;exact⟨e,ao,f,g,h,d⟩
   grind
  grind
 |.bool,i,a=>by
  simp only[fr,a2] at a;obtain⟨c,b⟩:=a;obtain⟨e,ao,f,g,h⟩:=hm.ok c;split at b
  ·rename_i d;exact⟨e,ao,f,g,h,d⟩
  grind
 |.str,i,a=>by
  simp only[fr,a2] at a;obtain⟨c,b⟩:=a;obtain⟨e,ao,f,g,h⟩:=hm.ok c;split at b
  ·rename_i d;exact⟨e,ao,f,g,h,d⟩
  grind
 |.aU _ k,i,a=>by
  simp only[fr,a2] at a;obtain⟨c,b⟩:=a;obtain⟨e,ao,f,g,h⟩:=hm.ok c;split at b
  ·rename_i j d;exact⟨e,j,ao,f,g,h,d,fr.ok b⟩
  grind
 |.osl k,i,a=>by
  simp only[fr,a2] at a;obtain⟨c,b⟩:=a;obtain⟨e,ao,f,g,h⟩:=hm.ok c;split at b
  ·rename_i j d;exact⟨e,j,ao,f,g,h,d,fr.ok b⟩
  grind
 |.ptr _ k,i,a=>by
  simp only[fr,a2] at a;obtain⟨c,b⟩:=a;obtain⟨e,ao,f,g,h⟩:=hm.ok c;split at b
  ·rename_i j d;exact⟨e,j,ao,f,g,h,d,fr.ok b⟩
  grind
 |.optr k,i,a=>by
  simp only[fr,a2] at a;obtain⟨c,b⟩:=a;obtain⟨e,ao,f,g,h⟩:=hm.ok c;split at b
  ·rename_i j d;exact⟨e,j,ao,f,g,h,d,fr.ok b⟩
  grind
 |.mp k,i,a=>by
  simp only[fr,a2] at a;obtain⟨c,b⟩:=a;obtain⟨e,ao,f,g,h⟩:=hm.ok c;split at b
  ·rename_i l j d;split at b
   ·rename_i m;exact⟨e,l,j,ao,f,g,h,d,m,fr.ok b⟩
   grind
  grind
 |.di _ k,i,a=>by
  simp only[fr,a2] at a;obtain⟨c,b⟩:=a;obtain⟨e,ao,f,g,h⟩:=hm.ok c;split at b
  ·rename_i l j d;split at b
   ·rename_i m;exact⟨e,l,j,ao,f,g,h,d,m,fr.ok b⟩
   grind
  grind
 |.st k,i,a=>by
  simp only[fr,a2] at a;obtain⟨r,a⟩:=a;split at a
  case h_2=>cases a
  rename_i e t;simp only[a2] at a;obtain⟨⟨c,b⟩,a⟩:=a;split at a
  case h_2=>cases a
  rename_i v u;simp only[a2] at a;obtain⟨s,a⟩:=a;split at a
  case h_2=>cases a
  rename_i q d;exact⟨ek r,e,q,v,t,dU c,ek b,u,d,pf.ok a,dU s⟩
 |.pr _ _,_,a=>by cases a
 |.nil,_,a=>by cases a
 |.bJ,_,a=>by cases a
theorem pf.ok {f:Program}:∀{g:ae} {b:List Field} {d:Nat} {c:cJ},pf f g b d c=true->gp f g b d c
 |.pr h i,[],d,c,a=>by cases a
 |.pr h i,r::s,d,c,a=>by
  simp only[pf,a2] at a;obtain⟨⟨⟨⟨j,k⟩,l⟩,e⟩,m⟩:=a;split at e
  case h_2=>cases e
  rename_i p n;split at e
  case h_2=>cases e
  rename_i q o;exact⟨dU j,fr.ok k,ek l,⟨p,q,n,o,ry.ok e⟩,pf.ok m⟩
 |.nil,[],d,c,a=>by have a:c=[]:=(by grind [pf]);exact a
 |.nil,_::_,d,c,a=>by cases a
 |.int _,b,d,c,a=>by cases b<;>cases a
 |.bool,b,d,c,a=>by cases b<;>cases a
 |.str,b,d,c,a=>by cases b<;>cases a
 |.aU _ _,b,d,c,a=>by cases b<;>cases a
 |.ptr _ _,b,d,c,a=>by cases b<;>cases a
 |.osl _,b,d,c,a=>by cases b<;>cases a
 |.optr _,b,d,c,a=>by cases b<;>cases a
 |.st _,b,d,c,a=>by cases b<;>cases a
 |.bJ,b,d,c,a=>by cases b<;>cases a
end
theorem IF {e:Program}:∀{tt:List (TypeId×ae)},(tt.all λf=>fr e f.2 f.1)=true->∀a b,ai tt a=some b->dn e b a
 |[],_,_,_,c=>by cases c
 |(k,g)::r,c,a,b,d=>by
  simp only[p0,a2] at c;rw[bv] at d;split at d
  ·grind [fr.ok]
  exact IF (by grind) a b d
end
section
def mG:(i:ae)->i.den->Prop
 |.int g,h=>(Lit.int g h).wf=true
 |.aU _ b,c=>c.length<=maxLen/\∀a∈c,mG b a
 |.ptr _ b,a=>∀d,a=some d->mG b d
 |.st b,a=>mG b a
 |.pr e f,a=>mG e a.1/\mG f a.2
 |_,_=>True
def oW:ae->Bool
 |.int _|.bool|.str|.nil=>true
 |.aU _ a|.ptr _ a|.st a=>oW a
 |.pr b c=>oW b&&oW c
 |_=>false
def z8 {P:Program} {c:ae} {a:TypeId} (d:dn P c a):P.cellsOf a=c.size:=by obtain⟨f,e,b,_⟩:=d.info;unfold Program.cellsOf;rw[b.info];simp[b.size]
section
variable {A:Type} {enc:TypeId×Value->A} {P:Program} {w:World}
def z9 {c:Addr} {d:cJ} (g:w.cells? b c a=some d) (k:0<a):c.spot=none/\d.length=a/\c.block<w.heap.size/\du w c.block c.off d:=by
 have n:=World.cells?_block g k;obtain⟨_,j,h⟩:=World.cells?_some g;have f:c.spot=none:=by
  have e:=h 0 k;have:(w.cell? (c.add 0)).isSome=true:=(by rw[e];simp[bB (U:0<d.length)]);simp only[Addr.add,if_true] at this;unfold World.cell? at this;split at this
  ·cases o:c.spot with
   |none=>rfl
   |some t=>rw[o] at this;simp at this
  cases this
 refine⟨f,j,n,λl s i=>?_⟩;have m:l<a:=(by rw[<-j];exact(ej.1 i).1);have:=h l m;rw[i] at this;rw[<-this];congr 1;unfold Addr.add;obtain⟨p,q,r⟩:=c;simp only at f;subst f;split
 ·rename_i e;subst e;rfl
 rfl
def wj (w:World):bI->Nat->Prop:=λ_ a=>a<w.heap.size
mutual
theorem zq:∀{τ:ae} {l:TypeId} {k:cJ} {q:Nat} {u:DataW A×List MemPlace},oW τ=true->dn P τ l->DataW.trod enc P w 0 (λ_=>true) true q l k=some u->∃c:τ.den,aD (wj w) w τ k c []/\mG τ c
 |.int p,l,k,q,u,_,⟨a,_,_,_,_,h⟩,d=>by obtain⟨C,rfl,_,bl⟩:=DataW.trod_int h d;exact⟨C,⟨rfl,rfl⟩,bl⟩
 |.bool,l,k,q,u,_,⟨a,_,_,_,_,h⟩,d=>by obtain⟨D,rfl,_⟩:=DataW.trod_bool h d;exact⟨D,⟨rfl,rfl⟩,trivial⟩
 |.str,l,k,q,u,_,⟨a,_,_,_,_,h⟩,d=>by obtain⟨cv,rfl,_,_⟩:=DataW.trod_string h d;exact⟨cv,⟨rfl,rfl⟩,trivial⟩
 |.aU ci b,l,k,q,u,g,⟨a,S,_,_,_,_,h,t⟩,d=>by
  rcases DataW.trod_slice h d with⟨rfl,_⟩|⟨e,z,T,N,d3,C,rfl,rfl,_,_,a0,d0,d1,H,_⟩
  ·exact⟨[],⟨rfl,none,0,rfl,aZ _,λ_=>rfl,.inl rfl⟩,by simp[maxLen],ab⟩
  have G:=z8 t;have R:=t.pos;have M:∀a,a<z->∃c:b.den,∃f:cJ,f.length=b.size/\w.cells? 0 (e.add (a*b.size)) b.size=some f/\aD (wj w) w b f c []/\mG b c:=by
   intro a m;have i:=H a m;have v:N[a]?=some (N[a]'(by omega)):=bB _
   rw[v] at i;obtain⟨f,r,E⟩:=bP.1 i;rw[G] at r;obtain⟨c,n,s⟩:=zq (τ:=b) g t E;exact⟨c,f,n.len,r,n,s⟩
  have a3:∀p,p<=z->∃o:List b.den,o.length=p/\∀(a:Nat) (c:b.den),o[a]?=some c->∃f:cJ,f.length=b.size/\w.cells? 0 (e.add (a*b.size)) b.size=some f/\aD (wj w) w b f c []/\mG b c:=by
   intro p
   induction p with
   |zero=>intro _;exact⟨[],rfl,λa c d=>by simp at d⟩
   |succ p ce=>
    intro d2;obtain⟨o,i,v⟩:=ce U;obtain⟨c,f,r⟩:=M p U;refine⟨o++[c],by simp[i],λa K j=>?_⟩;rcases bi a o.length with m|m
    ·rw[mC m] at j;exact v a K j
    rw[ny m] at j;have an:a=p:=(by have:=(ej.1 j).1;simp at this;omega);subst an;rw[i,Nat.sub_self] at j;simp only[iC,bw] at j;subst j;exact⟨f,r⟩
  obtain⟨o,i,v⟩:=a3 z (aZ _);refine⟨o,⟨rfl,some e,T,by rw[i],by rw[i];exact a0,(λd=>by cases d),?_⟩,by rw[i];omega,λc n=>?_⟩
  ·cases z with
   |zero=>exact .inl (List.length_eq_zero_iff.1 i)
   |succ z=>
    right;obtain⟨d4,ds,_,Q,_⟩:=M 0 U;have am:e.add (0*b.size)=e:=(by simp[Addr.add]);rw[am] at Q;obtain⟨y,_,I,_⟩:=z9 Q R;refine⟨e.block,e.off,by obtain⟨D,co,dl⟩:=e;simp only at y;subst y;rfl,I,λa c n=>?_⟩;obtain⟨f,W,X,Y,_⟩:=v a c n;obtain⟨_,_,_,B⟩:=z9 X R;refine⟨f,W,?_,Y⟩;have aj:(e.add (a*b.size)).block=e.block:=(by unfold Addr.add;split<;>rfl);have Z:(e.add (a*b.size)).off=e.off+a*b.size:=by
     unfold Addr.add;split
     ·rename_i ad;rw[ad];rfl
     rfl
    rw[aj,Z] at B;exact B
  obtain⟨a,m,rfl⟩:=g3.1 n;obtain⟨_,_,_,_,s⟩:=v a _ (bB m);exact s
 |.ptr ci b,l,k,q,u,g,⟨a,S,_,_,_,_,h,t⟩,d=>by
  rcases DataW.trod_pointer h d with⟨rfl,_⟩|⟨e,V,c,C,rfl,rfl,_,r,E⟩
  ·exact⟨none,⟨rfl,rfl⟩,λc d=>by cases d⟩
  rw[z8 t] at r;obtain⟨K,j,s⟩:=zq (τ:=b) g t E;obtain⟨y,_,I,B⟩:=z9 r t.pos;refine⟨some K,⟨rfl,e.block,e.off,V,by obtain⟨D,co,dl⟩:=e;simp only at y;subst y;rfl,I,j.len,B,j⟩,λc d=>by cases d;exact s⟩
 |.st b,l,k,q,u,g,⟨_,a,L,d5,m,a4,_,_,h,x,_⟩,d=>by
  obtain⟨o,C,rfl,_,av,bs,H⟩:=DataW.trod_struct h d;have G:P.cellsOf l=b.size:=(by unfold Program.cellsOf;rw[m];simp[a4]);obtain⟨c,n,s⟩:=ID (τ:=b) (fs:=L.toList) (cs:=k) g x (by rw[h1,<-G];exact av) (λJ O x=>by
   have x:L[J]?=some O:=(by simpa using x);have:=H J O x;have ap:J<o.length:=(by rw[bs];exact(lw.1 x).1);rw[bB ap] at this;exact⟨_,_,this⟩)
  rw[mB] at n;exact⟨c,n,s⟩
 |.osl _,_,_,_,_,g,_,_=>by cases g
 |.optr _,_,_,_,_,g,_,_=>by cases g
 |.pr _ _,_,_,_,_,_,F,_=>F.elim
 |.nil,_,_,_,_,_,F,_=>F.elim
 |.bJ,_,_,_,_,g,_,_=>by cases g
theorem ID:∀{τ:ae} {fs:List Field} {c:Nat} {g cs:cJ},oW τ=true->gp P τ fs c g->cs.length=c+τ.size->(∀(f:Nat) b,fs[f]?=some b->∃(k:Nat) (l:DataW A×List MemPlace),DataW.trod enc P w 0 (λ_=>true) true k b.type ((cs.drop b.offset).take (P.cellsOf b.type))=some l)->∃m:τ.den,aD (wj w) w τ (cs.drop c) m []/\mG τ m
 |.pr z B,b::D,c,g,cs,d,q,e,j=>by simp only[oW,a2] at d;obtain⟨o,h,C,_,p⟩:=q;obtain⟨k,l,i⟩:=j 0 b rfl;rw[o,z8 h] at i;obtain⟨x,s,t⟩:=zq d.1 h i;obtain⟨y,u,v⟩:=ID (cs:=cs) d.2 p (by rw[e];simp only[ae.size];omega) (λf n r=>j (f+1) n r);exact⟨(x,y),⟨[],[],rfl,s,by rw[oH];exact u⟩,t,v⟩
 |.nil,[],c,g,cs,_,_,e,_=>by refine⟨(),⟨rfl,?_⟩,trivial⟩;rw[List.drop_eq_nil_iff];simp only[ae.size] at e;omega
 |.pr _ _,[],_,_,_,_,a,_,_=>a.elim
 |.nil,_::_,_,_,_,_,a,_,_=>a.elim
 |.int _,fs,_,_,_,_,a,_,_=>by cases fs<;>exact a.elim
 |.bool,fs,_,_,_,_,a,_,_=>by cases fs<;>exact a.elim
 |.str,fs,_,_,_,_,a,_,_=>by cases fs<;>exact a.elim
 |.aU _ _,fs,_,_,_,_,a,_,_=>by cases fs<;>exact a.elim
 |.ptr _ _,fs,_,_,_,_,a,_,_=>by cases fs<;>exact a.elim
 |.osl _,fs,_,_,_,_,a,_,_=>by cases fs<;>exact a.elim
 |.optr _,fs,_,_,_,_,a,_,_=>by cases fs<;>exact a.elim
 |.st _,fs,_,_,_,_,a,_,_=>by cases fs<;>exact a.elim
 |.bJ,fs,_,_,_,_,a,_,_=>by cases fs<;>exact a.elim
end
theorem QN {f:ae} {g:TypeId} (l:oW f=true) (d:dn P f g) (c:Value.okWide P w .any a g k):k=bn f k.cells.toList:=by
 cases f with
 |int r=>
  obtain⟨e,_,_,_,_,b⟩:=d;obtain⟨h,rfl⟩:=Go.WideShapes.okWide_int b c;rfl
 |bool=>
  obtain⟨e,_,_,_,_,b⟩:=d;obtain⟨h,rfl⟩:=Go.WideShapes.okWide_bool b c;rfl
 |str=>
  obtain⟨e,_,_,_,_,b⟩:=d;obtain⟨h,rfl⟩:=Go.WideShapes.okWide_string b c;rfl
 |aU m i=>
  obtain⟨e,j,_,_,_,_,b,_⟩:=d;obtain⟨n,s,o,rfl⟩:=Go.WideShapes.okWide_slice b c;rfl
 |ptr m i=>
  obtain⟨e,j,_,_,_,_,b,_⟩:=d;simp only[Value.okWide,b,Cell.okWide] at c;cases k<;>first|rfl|simp_all [Cell.ok]
 |st i=>
  obtain⟨_,e,q,t,_,_,_,_,b,_,_⟩:=d;simp only[Value.okWide,b] at c;obtain⟨p,rfl,_⟩:=c;rfl
 |_=>first|(cases l;done)|exact d.elim
def rU (P:Program):List eV->cI->Bool
 |[],[]=>true
 |.v a::c,b::d=>oW a&&fr P a b&&rU P c d
 |_,_=>false
def mH:(d:List eV)->eY d->Prop
 |[],_=>True
 |.v e::b,a=>mG e a.1/\mH b a.2
 |.m _::b,a=>mH b a.2
 |.o _::b,a=>mH b a.2
 |.c _ _::b,a=>mH b a.2
 |.n::b,a=>mH b a.2
 |.w _::b,a=>mH b a.2
 |.s _ _::b,a=>mH b a.2
def DR {P:Program}:∀{ps:List eV} {b:cI} {k:Nat},rU P ps b=true->g0 k ps=none
 |[],_,_,_=>rfl
 |.v g::d,e::f,k,a=>by simp only[rU,a2] at a;exact DR (ps:=d) (k:=k+1) a.2
 |.v _::_,[],_,a=>by cases a
 |.m _::_,b,_,a=>by cases b<;>cases a
 |.o _::_,b,_,a=>by cases b<;>cases a
 |.c _ _::_,b,_,a=>by cases b<;>cases a
 |.n::_,b,_,a=>by cases b<;>cases a
 |.w _::_,b,_,a=>by cases b<;>cases a
 |.s _ _::_,b,_,a=>by cases b<;>cases a
def vC {b:Type}:List b->cE
 |[]=>[]
 |_::a=>[]::vC a
def y8 {b:Type}:∀a:List b,(vC a).flatten=[]
 |[]=>rfl
 |_::a=>by simp only[vC,iB,y8 a,g4]
def DT:∀{f:List eV} {l:cI} {base:Nat} {b:cJ} {i:List (DataW A)} {r:List MemPlace},rU P f l=true->DataW.TrodAll enc P w 0 (λ_=>true) true l b i r->(∀(j:Nat) k g,l[j]?=some k->b[j]?=some g->Value.okWide P w .any base k g)->∃h:eY f,mH f h/\∀{x:Type} (d:gm f x),jq (tn (λd=>d<w.heap.size) (λ_=>False) w) (ef f h d) b (vC b)
 |[],[],base,b,i,r,_,q,_=>by cases b<;>cases i<;>first|exact⟨(),trivial,λ_=>trivial⟩|exact q.elim
 |.v U::Q,y::x,base,b,i,r,e,q,u=>by
  simp only[rU,a2] at e;obtain⟨⟨s,z⟩,B⟩:=e;obtain⟨g,T,M,N,R,S,rfl,rfl,rfl,p,C⟩:=Go.ChangeShapes.trodAll_cons q;obtain⟨O,p⟩:=p;have t:=fr.ok z;obtain⟨L,I,F⟩:=zq s t p;obtain⟨h,D,E⟩:=DT B C (λj k K G H=>u (j+1) k K (by simpa using G) (by simpa using H));refine⟨(L,h),⟨F,D⟩,λd=>⟨⟨rfl,g.cells.toList,QN s t (u 0 y g rfl rfl),?_⟩,E d⟩⟩;exact I.mono (λJ d e=>⟨by cases J with
   |bm=>exact e
   |dO=>exact .inl e,br.refl _ _⟩) ab
 |[],_::_,_,_,_,_,a,_,_=>by cases a
 |.v _::_,[],_,_,_,_,a,_,_=>by cases a
 |.m _::_,_,_,_,_,_,a,_,_=>by cases a
 |.o _::_,_,_,_,_,_,a,_,_=>by cases a
 |.c _ _::_,_,_,_,_,_,a,_,_=>by cases a
 |.n::_,_,_,_,_,_,a,_,_=>by cases a
 |.w _::_,_,_,_,_,_,a,_,_=>by cases a
def IC {P:Program} (k:laidOutB P=true) {i j:World} {o:Nat->Bool}:∀{f:cI} {e:cJ} {d:List (DataW A)} {c:List MemPlace},(∀h∈f,P.readableRec h=true/\h<P.types.size)->DataW.TrodAll enc P i 0 (λ_=>true) true f e d c->(∀a∈c,i.sameAt j a)->(∀a∈c,o a.block=true)->DataW.TrodAll enc P j 0 o true f e d c
 |[],e,d,c,_,g,_,_=>by cases e<;>cases d<;>first|exact g|exact g.elim
 |T::f,e,d,c,l,g,m,n=>by obtain⟨y,z,w,x,s,t,rfl,rfl,rfl,p,q⟩:=Go.ChangeShapes.trodAll_cons g;obtain⟨u,v⟩:=l T ab;exact⟨s,t,Go.WideElems.Trod_stays k u v p (λa b=>m a (by simp[b])) (λa b=>n a (by simp[b])),IC k (λh r=>l h (by simp[r])) q (λa b=>m a (by simp[b])) (λa b=>n a (by simp[b])),rfl⟩
def NL {E:dA} {F:g1} {l:ChangeSpec} {T:TypeId} (a4:aJ E F) (d2:laidOutB E.P=true) (d7:(u.params.toList.all λd=>E.P.readableRec d&&Nat.blt d E.P.types.size)=true) (X:rU E.P F.ps u.params.toList=true) (_hrs:F.rs=[.bool]) (O:u.resultTypes=#[T]) (x:E.P.underlying T=some .bool) (Z:l.vars=[]) (fb:∀c:List (DataW A),c.length=u.params.toList.length->l.fn A c=⟨[.lit (.bool true)],c,[]⟩) (ex:∀v,mH F.ps v->∃b,F.tb v=some b/\gA F.rs (fM F.ps b)=[⟨.bool,true⟩]) {a0 co ap:Bool} {o:cH} {c D:List (DataW A)} {h:List MemPlace} (fp:∀(r:Nat) d n,u.params[r]?=some d->o[r]?=some n->Value.okWide E.P p .any a d n) (Q:DataW.Whole enc E.P u.params.toList l.vars s p o.toList c D h) (bl:iw E (λb=>b<p.heap.size) p):Calls E.P F.f o p λN e=>∃n,N=.returned n/\l.post enc E.P u s a0 co ap p o n e:=by
 have R:=Q;obtain⟨z,fz,G,H,W,cv,d3⟩:=Q;rw[Z] at H;have dl:D=[]/\fz=[]:=by cases D with
  |nil=>exact⟨rfl,H⟩
  |cons=>exact H.elim
 obtain⟨rfl,rfl⟩:=dl;rw[p1] at W;subst W;obtain⟨v,d6,ci⟩:=DT (w:=p) (base:=a) X G (λr d n L M=>fp r d n (by simpa using L) (by simpa using M));obtain⟨b,ce,d9⟩:=ex v d6;have d1:∀{t:cI} {C:cJ} {c:List (DataW A)} {z:List MemPlace},DataW.TrodAll enc E.P p 0 (λ_=>true) true t C c z->c.length=t.length:=by
  intro t
  induction t with
  |nil=>intro C c z i;cases C<;>cases c<;>first|rfl|exact i.elim
  |cons T t fs=>
   intro C c z i;obtain⟨n,gc,f1,f2,f8,f9,rfl,rfl,rfl,f7,a3⟩:=Go.ChangeShapes.trodAll_cons i;simp[fs a3]
 have I:l.fn A (c++[])=⟨[.lit (.bool true)],c,[]⟩:=(by rw[p1];exact fb c (d1 G));have K:=R.lt;have U:=a4.2 v b ce p (λb=>b<p.heap.size) (λ_=>False) o.toList (vC o.toList) (λb i=>i.elim id (λi=>i.elim)) (ci b) (by rw[y8];exact List.nodup_nil) (by rw[y8];simp) (by rw[vI,DR X];trivial);rw[Array.toArray_toList] at U;refine(U bl).mono ?_;rintro N e ⟨fT,f5,y,B,rfl,j⟩;refine⟨_,rfl,?_⟩;have em:m6 B=.bool true:=by
  have:=j.res;rw[d9] at this;cases B with
  |nil=>cases y<;>exact this.elim
  |cons n B=>
   cases y with
   |nil=>exact this.elim
   |cons f6 y=>
    obtain⟨⟨f0,M,_,rfl⟩,el⟩:=this;cases B with
    |nil=>exact M
    |cons=>cases y<;>exact el.elim
 have J:∀b,b<p.heap.size->e.heap[b]?=p.heap[b]?:=λb x=>j.heap b x (by rw[y8];simp);have eq:∀g∈h,p.sameAt e g:=λg q=>by
  have:=J g.block (K g q);cases g with
  |cell b k=>show e.cell? _=p.cell? _;unfold World.cell?;rw[show e.heap[b]?=p.heap[b]? from this]
  |map b=>exact this
 have cs:∀b k,MemPlace.cell b k∈h->e.frozen? ⟨b,k,none⟩=p.frozen? ⟨b,k,none⟩:=λb k q=>(by unfold World.frozen?;rw[show e.heap[b]?=p.heap[b]? from J b (K _ q)]);rw[em];have d8:∀d∈u.params.toList,E.P.readableRec d=true/\d<E.P.types.size:=λd L=>(by have:=et.1 d7 d L;simp only[a2] at this;exact⟨this.1,ek this.2⟩);have S:∀m:Nat->Bool,(∀g∈h,m g.block=true)->DataW.TrodAll enc E.P e 0 m true u.params.toList o.toList (l.fn A (c++[])).args h:=λm fa=>(by rw[I];exact IC d2 d8 G eq fa);have Y:∀(b:Nat) (m:Nat->Bool) (V:Bool),DataW.TrodAll enc E.P e b m V u.resultTypes.toList ((Value.bool true).resultList u.resultTypes.size) (l.fn A (c++[])).results []:=λb m V=>(by rw[I,O];exact Go.ChangeShapes.trodAll_mk1 ⟨1,by unfold DataW.trod;rw[x];rfl⟩);have ad:∀m:Nat->Bool,DataW.TrodVars enc E.P e m l.vars (l.fn A (c++[])).vars []:=λm=>(by rw[I,Z];rfl);have d4:∀(r:Nat) (d:TypeId) (an:Value),u.resultTypes[r]?=some d->((Value.bool true).resultList u.resultTypes.size)[r]?=some an->Value.okWide E.P e .any 0 d an:=
  Go.RowKit.ok_one O rfl (Go.RowKit.okWide_bool_mk x true)
 have d5:∀g∈h,(λb=>decide (b<p.heap.size)) g.block=true:=λg q=>(by simpa using K g q);have d0:p.keptBut e (λ_=>False):=by
  refine⟨j.os,j.output,λam ds=>?_⟩;rw[J am ds];cases p.heap[am]? with
  |none=>rfl
  |some ft=>cases ft with
   |cells av d f4=>exact⟨rfl,rfl,rfl,λ_ _=>rfl⟩
   |map f3 av=>exact .inr ⟨rfl,rfl⟩
   |_=>rfl
 refine⟨c,[],h,[],h,[],R,Y _ _ _,S _ d5,ad _,World.keptBut_mono (λ_ i=>i.elim) d0,λ_=>?_⟩;refine⟨d4,_,_,([]++h)++[],⟨[]++h,[],Go.ChangeShapes.trodAll_append (S _ (λ_ _=>rfl)) (Y _ _ _),ad _,rfl,?_,?_⟩,?_⟩
 ·intro b k j;have j:MemPlace.cell b k∈h:=(by simpa using j);rw[cs b k j];exact cv b k j
 ·intro bs;simpa using d3 bs
 intro g q _;simpa using q
end
end
section
inductive zA where
 |a
 |b (f:cP)
 |c (f m:cP)
def Ax (a:Nat):Nat:=a/32+a %32*500000
abbrev Rp (a:Nat):Nat×lF:=(a,.s (.ref a []))
abbrev CS (a:Nat):Nat×lF:=(a,.v (.int .i64))
inductive lu where
 |l
 |o (a:lu)
 |t (j:zE) (a b:lu)
 |n (b:lu)
 |p (kR:kp) (m:zF) (a:lu)
 |k (l:cP) (a:lu)
 |z (F:cP) (a:lu)
 |d (L:List zA)
def zf (b:Array Oper) (a:Nat) (f c:cP):iV:=match b[a]? with
 |some d=>⟨a,dl d,d.looksAt b,m3 b a,f,c⟩
 |none=>⟨a,[],[],[],f,c⟩
def x4 (d:Array Oper):Nat->List zA->List iV
 |_,[]=>[]
 |i,.a::e=>zf d i [] []::x4 d (i+1) e
 |i,.b f::e=>zf d i (f.map Ax) []::x4 d (i+1) e
 |i,.c f g::e=>zf d i (f.map Ax) (g.map Ax)::x4 d (i+1) e
def pd:Code->jJ
 |.seq a b=>.two .none (pd a) (pd b)
 |.cond _ a b=>.two .none (pd a) (pd b)
 |.block _ a=>.one (pd a)
 |.region _ c true=>.draw ((List.range c.size).map λd=>zf c d [] [])
 |_=>.leaf
def lu.ex:lu->Code->jJ
 |.l,a=>pd a
 |.o b,.block _ a=>.one (b.ex a)
 |.t J b c,.seq a e=>.two J (b.ex a) (c.ex e)
 |.t J b c,.cond _ a e=>.two J (b.ex a) (c.ex e)
 |.n c,.seq a e=>.two .none (pd a) (c.ex e)
 |.n c,.cond _ a e=>.two .none (pd a) (c.ex e)
 |.p j h b,.loop a=>.loop j h (b.ex a)
 |.k f b,a=>.keep f (b.ex a)
 |.z g b,a=>.nY g (b.ex a)
 |.d f,.region _ i _=>.draw (x4 i 0 f)
 |_,_=>.leaf
def tR (E:dA):Type:={a:List (Nat×g1)//∀b∈a,aJ E b.2}
def aN {E:dA}:tR E:=⟨[],Iv⟩
def au {E:dA} {a:g1} (c:aJ E a) (b:tR E):tR E:=⟨(a.f,a)::b.1,SV c b.2⟩
section
variable {E:dA} {f:Nat} {fn:Func} {ps:List eV} {C:List ae} {D:eY ps->Option (gm ps (iT C))}
def aJ.q (d:tR E) (l:lu) (k:E.P.funcs[f]?=some fn) (j:∀(h:cH) (i:World),(callFunc f h).run E.P i=.ok (.enter f h) i) (g:List (Nat×ae):=[]) (e:cR:=[]) (a:(fn.body.isSome&&Nat.ble ps.length fn.ntmps)=true:=by kernel_rfl) (c:∀b,u6 ⟨E.tt,d.1,g,fn.ntmps,hk 0 ps++kP (g0 0 ps),[],e,g0 0 ps,[],[],E.glob⟩ (l.ex (fn.body.getD .skip)) (fn.body.getD .skip) ps fn.results.toList C b=D b:=by intro b;kernel_rfl):aJ E ⟨f,ps,C,D⟩:=
 have a:=a2 _ _▸a
 aJ.Gv d.1 g e _ [] (λ_ c=>by cases c) k a.1 Array.toArray_toList.symm a.2 j d.2 c
end
end
def ir (a:Nat):Nat×Nat:=bif Nat.blt (a %32) 28 then(a %32,a/32) else bif Nat.beq (a %32) 31 then(a/32 %16777216,a/536870912) else((a %32-28)*256+a/32 %256+28,a/8192)
def kK {c:Type} (b:Nat->c×Nat):Nat->Nat->List c×Nat
 |0,a=>([],a)
 |k+1,a=>match a %2 with
  |0=>([],a/2)
  |_=>match b (a/2) with
   |(x,t)=>match kK b k t with
    |(l,u)=>(x::l,u)
def Co (a:List ae) (b:Nat):ae×Nat:=match ir b with
 |(i,t)=>(a.getD i .nil,t)
def kL {a b:Type} (c:Nat->a×Nat) (d:Nat->b×Nat) (e:Nat):(a×b)×Nat:=match c e with
 |(x,t)=>match d t with
  |(y,u)=>((x,y),u)
def Rx (b:List ae) (a:Nat):(Nat×lF)×Nat:=match a %4 with
 |0=>match ir (a/4) with
  |(k,t)=>(Rp k,t)
 |1=>match ir (a/4) with
  |(k,t)=>(CS k,t)
 |2=>match kL ir (Co b) (a/4) with
  |((k,x),t)=>((k,.v x),t)
 |_=>match kL ir ir (a/4) with
  |((k,x),t)=>((k,.s (.ref x [])),t)
def vB (a:List ae) (b:Nat):kp×Nat:=match kL (kK (Rx a) 99) (kK (kL ir (Co a)) 99) b with
 |((x,y),t)=>(⟨x,y⟩,t)
def Rw (b:List ae) (a:Nat):zE×Nat:=match a %3 with
 |0=>(.none,a/3)
 |1=>match kL (kK ir 99) (vB b) (a/3) with
  |((x,y),t)=>(.x x y,t)
 |_=>match kL (kK ir 99) (vB b) (a/3) with
  |((x,y),t)=>(.ru x y,t)
def Ry (b:List ae) (a:Nat):zF×Nat:=match a %3 with
 |0=>(.r,a/3)
 |1=>match kL ir (vB b) (a/3) with
  |((x,y),t)=>(.x x y,t)
 |_=>match kL ir (vB b) (a/3) with
  |((x,y),t)=>(.ru x y,t)
def Cm (a:Nat):Nat×Nat:=match a %2 with
 |0=>match ir (a/2) with
  |(k,t)=>(k*32,t)
 |_=>match ir (a/64) with
  |(k,t)=>(k*32+a/2 %32,t)
def Rv (d:Nat):zA×Nat:=match d %3 with
 |0=>(.a,d/3)
 |1=>match kK Cm 99 (d/3) with
  |(x,t)=>(.b x,t)
 |_=>match kL (kK Cm 99) (kK Cm 99) (d/3) with
  |((x,y),t)=>(.c x y,t)
def pH (e:List ae):Nat->Nat->lu×Nat
 |0,c=>(.l,c)
 |k+1,c=>match c %8 with
  |0=>(.l,c/8)
  |1=>match pH e k (c/8) with
   |(a,t)=>(.o a,t)
  |2=>match Rw e (c/8) with
   |(f,t)=>match pH e k t with
    |(a,t)=>match pH e k t with
     |(b,t)=>(.t f a b,t)
  |3=>match pH e k (c/8) with
   |(a,t)=>(.n a,t)
  |4=>match kL (vB e) (Ry e) (c/8) with
   |((x,y),t)=>match pH e k t with
    |(a,t)=>(.p x y a,t)
  |5=>match kK ir 99 (c/8) with
   |(x,t)=>match pH e k t with
    |(a,t)=>(.k x a,t)
  |6=>match kK ir 99 (c/8) with
   |(x,t)=>match pH e k t with
    |(a,t)=>(.z x a,t)
  |_=>match kK Rv 999 (c/8) with
   |(x,t)=>(.d x,t)
def Cn (b:List ae) (c:Nat):lu×List (Nat×ae)×cR:=match pH b 999 c with
 |(a,t)=>match kL (kK (kL ir (Co b)) 99) (kK (kL ir ir) 99) t with
  |((x,y),_)=>(a,x,y)
def KI {b:Program} (h:b.funcs[a]?=some u) (i:(u.name=="runtime.NumGoroutine")=false) (g:u.body.isSome=true) (c:cH) (d:World):(callFunc a c).run b d=.ok (.enter a c) d:=by have e:u.name≠"runtime.NumGoroutine":=(by simpa using i);obtain⟨j,f⟩:=zH.1 g;simp[callFunc,h,e,f,Sem.run]
section
def ac {α:Type} (c:Option α) (b:α->Prop):Prop:=∃a,c=some a/\b a
section
variable {α A σ ρ τ:Type}
def ac.al {b:α} {c:α->Prop}:ac (some b) c↔c b:=⟨λ⟨_,a,d⟩=>by cases a;exact d,λa=>⟨b,rfl,a⟩⟩
def ac.ob {a:α->Prop}:ac none a↔False:=⟨(λ⟨_,b,_⟩=>by cases b),False.elim⟩
def ac.fh {a:Option α} {c:α->Option A} {b:A->Prop}:ac (a.bind c) b↔ac a (λd=>ac (c d) b):=by
 cases a with
 |none=>simp only[Option.bind_none,ac.ob]
 |some d=>simp only[aP,ac.al]
def ac.FW {a:Option α} {c:α->A} {b:A->Prop}:ac (a.map c) b↔ac a (λd=>b (c d)):=by
 cases a with
 |none=>simp only[Option.map_none,ac.ob]
 |some d=>simp only[hj,ac.al]
def ac.eL {b c:Option α} {a:α->Prop}:ac (bif s then b else c) a↔(s=true->ac b a)/\(s=false->ac c a):=by cases s<;>simp
def ac.mono {c:Option α} {P b:α->Prop} (d:ac c P) (g:∀a,P a->b a):ac c b:=let⟨a,e,f⟩:=d;⟨a,e,g a f⟩
def ac.eq_iff {c:Option α} {b:α}:ac c (· =b)↔c=some b:=⟨λ⟨e,a,d⟩=>by rw[a,d],λa=>⟨b,a,rfl⟩⟩
def ac.MR {b:List α} {e:α->Prop}:ac (aQ b c) e↔∃(f:c.toNat<b.length),0<=c/\e b[c.toNat]:=by
 unfold aQ;by_cases a:0<=c
 ·rw[ak a];by_cases d:c.toNat<b.length
  ·rw[bB d,ac.al];simp[d,a]
  rw[hG U,ac.ob];simp[d]
 rw[ag a,ac.ob];simp[a]
def ac.kC {b:List α} {c:α->Prop}:ac (aQ b (a:Int)) c↔∃(d:a<b.length),c b[a]:=by rw[ac.MR];simp
def ac.sB:ac (bG a c) h↔(0<=c/\c.toNat<a)/\h c.toNat:=by
 unfold bG;by_cases b:0<=c/\c.toNat<a
 ·rw[ak b,ac.al];simp[b]
 rw[ag b,ac.ob];simp[b]
def ac.FK {c:Unit->Prop}:ac (dd a) c↔a<=fi/\c ():=by
 unfold dd;by_cases b:a<=fi
 ·rw[ak b,ac.al];simp[b]
 rw[ag b,ac.ob];simp[b]
def ac.Bx:ac (fj c n) h↔(0<=c/\c<=n/\n<=(fi:Int))/\h c.toNat:=by
 unfold fj;by_cases a:0<=c/\c<=n/\n<=(fi:Int)
 ·rw[ak a,ac.al];simp[a]
 rw[ag a,ac.ob];simp[a]
def bt (d:List α) (c:Nat) (b:α->Option A):Option A:=match d[c]? with
 |some a=>b a
 |none=>none
def ac.rV {c:List α} {e:α->Option A} {d:A->Prop}:ac (bt c a e) d↔∃(b:a<c.length),ac (e c[a]) d:=by
 unfold bt;by_cases b:a<c.length
 ·rw[bB b];simp[b]
 rw[hG U];simp[b,ac.ob]
def ac.loop {j:σ->Option (σ⊕ρ)} {i:ρ->Prop} (g:σ->Prop) (h:σ->Nat) {a:σ} (n:g a) (m:∀a,g a->ac (j a) (λ|.inl f=>g f/\h f<h a|.inr b=>i b)):ac (loop j a) i:=by
 have s:∀e a,h a<=e->g a->∃b,ha j (e+1) a=some b/\i b:=by
  intro e
  induction e with
  |zero=>
   intro a q k;obtain⟨l,d,c⟩:=m a k;cases l with
   |inl f=>have:=c.2;omega
   |inr b=>exact⟨b,by simp only[ha,d],c⟩
  |succ e r=>
   intro a q k;obtain⟨l,d,c⟩:=m a k;cases l with
   |inl f=>
    obtain⟨b,o,p⟩:=r f (by have:=c.2;omega) c.1;exact⟨b,by rw[ha,d];exact o,p⟩
   |inr b=>exact⟨b,by simp only[ha,d],c⟩
 obtain⟨b,d,c⟩:=s (h a) a (aZ _) n;exact⟨b,ve.2 ⟨_,d⟩,c⟩
def ac.for {j:Int×τ->Option ((Int×τ)⊕ρ)} {i:ρ->Prop} (b:Nat) (e:Nat->τ->Prop) {i0:Nat} {p:τ} (t:c=(i0:Int)) (q:e i0 p) (n:i0<=b) (v:∀a d,i0<=a->a<b->e a d->ac (j ((a:Int),d)) (λ|.inl k=>k.1=((a+1:Nat):Int)/\e (a+1) k.2|.inr g=>i g)) (s:∀d,e b d->ac (j ((b:Int),d)) (λ|.inl _=>False|.inr g=>i g)):ac (hX.loop j (c,p)) i:=by
 subst t;refine ac.loop (λh=>∃a:Nat,i0<=a/\a<=b/\h.1=(a:Int)/\e a h.2) (λh=>b-h.1.toNat) ⟨i0,aZ _,n,rfl,q⟩ ?_;rintro⟨w,d⟩ ⟨a,u,n,rfl,o⟩;rcases bi a b with m|m
 ·refine(v a d u m o).mono ?_;rintro(⟨x,y⟩|g) f
  ·obtain⟨l,r⟩:=f;simp only at l;subst l;exact⟨⟨a+1,U,U,rfl,r⟩,by show b-Int.toNat _<b-Int.toNat _;simp;omega⟩
  exact f
 obtain rfl:a=b:=U;refine(s d o).mono ?_;rintro(k|g) f
 ·exact f.elim
 exact f
end
def Tw (a:Int):IntKind.i64.wrap a=if(9223372036854775808:Int)<=a %18446744073709551616 then a %18446744073709551616-18446744073709551616 else a %18446744073709551616:=by
 unfold IntKind.wrap;by_cases b:(9223372036854775808:Int)<=a %18446744073709551616
 ·rw[ak b];exact ak (show(true&&decide (a %18446744073709551616>=(9223372036854775808:Int)))=true by simp[b])
 rw[ag b];exact ag (show¬(true&&decide (a %18446744073709551616>=(9223372036854775808:Int)))=true by simp[b])
def wrap64 {x:Int} (a:-9223372036854775808<=x) (b:x<=9223372036854775807):IntKind.i64.wrap x=x:=by rw[Tw];split<;>omega
def jH (b:a<9223372036854775807):IntKind.i64.wrap ((a:Int)+1)=((a+1:Nat):Int):=by rw[wrap64 U U];simp
end
section
abbrev aw {α:Type} (a:List α):Int:=((a.length:Nat):Int)
abbrev ax (a:Int):Int:=IntKind.i64.wrap a
abbrev aH (a:Int):Int:=IntKind.u64.wrap a
abbrev bL (a:Int):Int:=IntKind.u32.wrap a
abbrev a7 (a:Int):Int:=IntKind.i64.wrap (a+1)
def rd {α A:Type} (a:List α) (c:Int) (e:α->Option A):Option A:=(bG a.length c).bind λd=>(bt a d λb=>some b).bind e
def wr {α A:Type} (a:List α) (c:Int) (e:α) (d:List α->Option A):Option A:=(bG a.length c).bind λb=>(bt a b λ_=>some (a.set b e)).bind d
section
variable {α A:Type}
def mb {b:List α} (d:a<b.length) (c:α->Option A):rd b (a:Int) c=c b[a]:=by unfold rd bG;rw[ak ⟨U,by simpa using d⟩];show(bt b (a:Int).toNat _).bind c=_;unfold bt;rw[dk,bB d];rfl
def nk {b:List α} (d:a<b.length) (e:α) (c:List α->Option A):wr b (a:Int) e c=c (b.set a e):=by unfold wr bG;rw[ak ⟨U,by simpa using d⟩];show(bt b (a:Int).toNat _).bind c=_;unfold bt;rw[dk,bB d];rfl
end
end
def xb:cj->cN:=λ(e,h,_)=>(loop (σ:=cw) (ρ:=cm) (λ(f,c,_)=>bif decide (c<((e.length:Nat):Int)) then(Option.bind (α:=cy⊕b8) ((aQ e c).bind λd=>Option.bind (α:=Unit⊕(cy⊕b8)) (cond (decide (d<=f)==false) (cond (decide (d>=h)) (some (.inr (.inr (.inr (.inr (false,())))))) (some (.inl ()))) (some (.inr (.inr (.inr (.inr (false,()))))))) λa=>match a with
 |.inl _=>(some (.inl (d,())))
 |.inr b=>some b) λa=>match a with
 |.inl (g,_)=>(some (.inl (g,IntKind.i64.wrap (c+(1:Int)),())))
 |.inr b=>some b) else some (.inr (.inl ()))) ((-1:Int),(0:Int),())).bind λa=>match a with
 |.inl _=>(some (true,()))
 |.inr b=>some b
def o3:cy->cN:=λ(a,_)=>some ((a !=a),())
def qs:cw->cN:=λ(a,b,_)=>(o3 (a,())).bind λ(c,_)=>(cond (c==true) ((o3 (b,())).bind λ(aT,_)=>cond ((!aT)==false) (some (decide (a<b),())) (some (true,()))) (some (decide (a<b),())))
def xE:cy->cN:=λ(a,_)=>some ((a !=a),())
def xy:cj->Option cr:=λ(b,e,_)=>(loop (σ:=cw) (ρ:=cy) (λ(c,d,_)=>cond (decide (c<d)) ((df IntKind.u64 (IntKind.u64.wrap (IntKind.i64.wrap (c+d))) (1:Int)).bind λf=>(aQ b (IntKind.i64.wrap f)).bind λk=>(qs (k,e,())).bind λ(i,_)=>cond i (some (.inl (IntKind.i64.wrap (IntKind.i64.wrap f+(1:Int)),d,()))) (some (.inl (c,IntKind.i64.wrap f,())))) (some (.inr (c,())))) ((0:Int),((b.length:Nat):Int),())).bind λ(a,_)=>(cond (decide (a<((b.length:Nat):Int))==true) ((aQ b a).bind λl=>cond ((l==e)==false) ((aQ b a).bind λj=>(xE (j,())).bind λ(g,_)=>cond (g==true) ((xE (e,())).bind λ(h,_)=>some (a,h,())) (some (a,false,()))) (some (a,true,()))) (some (a,false,())))
def r8:(cg×Int×Int×Unit)->cN:=λ(a,c,d,_)=>(aQ a.1 c).bind λe=>(xy (e,d,())).bind λ(_,b,_)=>some (b,())
def uk:cc->cO:=λ(a,_)=>(bif decide ((((a.1).length:Nat):Int)>(200:Int)) then some ((6:Int),()) else((loop (σ:=cy) (ρ:=cp) (λ(d,_)=>bif decide (d<(((a.1).length:Nat):Int)) then(Option.bind (α:=Unit⊕cb) ((aQ a.1 d).bind λj=>(xb (j,(((a.1).length:Nat):Int),())).bind λ(aT,_)=>cond ((!aT)==false) ((r8 (a,d,d,())).bind λ(i,_)=>cond i (some (.inr (.inr (.inr ((1:Int),()))))) (some (.inl ()))) (some (.inr (.inr (.inr ((1:Int),())))))) λb=>match b with
 |.inl _=>(some (.inl (IntKind.i64.wrap (d+(1:Int)),())))
 |.inr c=>some c) else some (.inr (.inl ()))) ((0:Int),())).bind λb=>match b with
 |.inl _=>((loop (σ:=cy) (ρ:=cp) (λ(e,_)=>bif decide (e<(((a.1).length:Nat):Int)) then((aQ a.1 e).bind λg=>(loop (σ:=cy) (ρ:=(Unit⊕cb)) (λ(f,_)=>cond (decide (f<((g.length:Nat):Int))) ((aQ g f).bind λk=>(r8 (a,k,e,())).bind λ(h,_)=>cond (!h) (some (.inr (.inr (.inr (.inr ((1:Int),())))))) (some (.inl (IntKind.i64.wrap (f+(1:Int)),())))) (some (.inr (.inl ())))) ((0:Int),())).bind λb=>match b with
 |.inl _=>(some (.inl (IntKind.i64.wrap (e+(1:Int)),())))
 |.inr c=>some c) else some (.inr (.inl ()))) ((0:Int),())).bind λb=>match b with
 |.inl _=>(some ((0:Int),()))
 |.inr c=>some c)
 |.inr c=>some c))
def w3:cy->Option b9:=λ(b,_)=>(fj b b).bind λh=>(fj b b).bind λi=>(loop (σ:=b6) (ρ:=b9) (λ(d,a,_)=>cond (decide (d<b)) ((bG (a.1).length d).bind λf=>((bt a.1 f λ_=>some ((a.1).set f (-1:Int))).map λm=>(m,a.2)).bind λc=>(bG (c.2.1).length d).bind λe=>(((bt c.2.1 e λ_=>some ((c.2.1).set e (-1:Int))).map λj=>(j,c.2.2)).map λk=>(c.1,k)).bind λl=>some (.inl (IntKind.i64.wrap (d+(1:Int)),l,()))) (some (.inr (a,())))) ((0:Int),(List.replicate h (0:Int),(List.replicate i (0:Int),())),())).bind λ(g,_)=>some (g,())
def w2:(cd×Int×Int×Unit)->Option b9:=λ(j,m,e,_)=>(loop (σ:=b6) (ρ:=b9) (λ(b,d,_)=>Option.bind (α:=b9⊕(b6⊕b9)) (cond ((b !=(-1:Int))==true) (cond (decide (b<e)) (some (.inl (d,()))) (some (.inr (.inr (d,()))))) (some (.inr (.inr (d,()))))) λo=>match o with
 |.inl (a,_)=>((bG (a.2.1).length b).bind λn=>(bt a.2.1 n λi=>some i).bind λh=>(bG (a.2.1).length b).bind λf=>(((bt a.2.1 f λ_=>some ((a.2.1).set f e)).map λq=>(q,a.2.2)).map λr=>(a.1,r)).bind λc=>Option.bind (α:=b9) (cond (h==(-1:Int)) ((bG (c.1).length b).bind λg=>((bt c.1 g λ_=>some ((c.1).set g e)).map λs=>(s,c.2)).bind λt=>some (t,())) (some (c,()))) λ(k,_)=>some (.inl (h,k,())))
 |.inr p=>some p) (m,j,())).bind λ(l,_)=>some (l,())
def w1:cc->Option cj:=λ(a,_)=>(uk (a,())).bind λ(f,_)=>(cond (f !=(0:Int)) (some ([],f,())) ((w3 ((((a.1).length:Nat):Int),())).bind λ(k,_)=>(loop (σ:=b6) (ρ:=b9) (λ(b,d,_)=>cond (decide (b<(((a.1).length:Nat):Int))) ((aQ a.1 b).bind λg=>(loop (σ:=b6) (ρ:=b9) (λ(c,e,_)=>cond (decide (c<((g.length:Nat):Int))) ((aQ g c).bind λl=>(w2 (e,l,b,())).bind λ(j,_)=>some (.inl (IntKind.i64.wrap (c+(1:Int)),j,()))) (some (.inr (e,())))) ((0:Int),d,())).bind λ(h,_)=>some (.inl (IntKind.i64.wrap (b+(1:Int)),h,()))) (some (.inr (d,())))) ((0:Int),k,())).bind λ(i,_)=>some (i.1,(0:Int),())))
def xY:(cg×cQ×Int×Unit)->Option ct:=λ(q,x,b,_)=>(fj (IntKind.i64.wrap (b+(1:Int))) (IntKind.i64.wrap (b+(1:Int)))).bind λh=>(bG (List.replicate h false).length b).bind λj=>(bt (List.replicate h false) j λ_=>some ((List.replicate h false).set j true)).bind λE=>(aQ q.1 b).bind λn=>(loop (σ:=ch) (ρ:=cq) (λ(i,l,_)=>bif decide (i<((n.length:Nat):Int)) then(aQ n i).bind λA=>(loop (σ:=ch) (ρ:=cq) (λ(c,a,_)=>Option.bind (α:=cq⊕b4) (cond (decide (c>=(0:Int))==true) (cond (decide (c<b)==true) ((bG a.length c).bind λr=>(bt a r λo=>some o).bind λB=>cond (!B) (some (.inl (a,()))) (some (.inr (.inr (a,()))))) (some (.inr (.inr (a,()))))) (some (.inr (.inr (a,()))))) λy=>match y with
 |.inl (g,_)=>((bG g.length c).bind λk=>(bt g k λ_=>some (g.set k true)).bind λF=>(aQ x c).bind λC=>some (.inl (C,F,())))
 |.inr z=>some z) (A,l,())).bind λ(t,_)=>some (.inl (IntKind.i64.wrap (i+(1:Int)),t,())) else some (.inr (l,()))) ((0:Int),E,())).bind λ(m,_)=>(loop (σ:=(Int×cM×cQ×Unit)) (ρ:=ct) (λ(d,e,f,_)=>cond (decide (d<((m.length:Nat):Int))) (Option.bind (α:=(cM×cQ×Unit)) ((bG e.length d).bind λs=>(bt e s λp=>some p).bind λD=>cond D ((dd (f.length+([d]).length)).bind λ_=>some (e,(f++[d]),())) (some (e,f,()))) λ(u,v,_)=>some (.inl (IntKind.i64.wrap (d+(1:Int)),u,v,()))) (some (.inr (f,())))) ((0:Int),m,[],())).bind λ(w,_)=>some (w,())
def xX:cc->Option (cF×Int×Unit):=λ(g,_)=>(w1 (g,())).bind λ(d,j,_)=>(bif j !=(0:Int) then some ([],j,()) else(fj ((d.length:Nat):Int) ((d.length:Nat):Int)).bind λq=>(loop (σ:=(Int×cF×Unit)) (ρ:=cg) (λ(b,i,_)=>bif decide (b<((d.length:Nat):Int)) then(xY (g,d,b,())).bind λ(k,_)=>(loop (σ:=(Int×cF×cQ×Unit)) (ρ:=cg) (λ(e,a,f,_)=>bif decide (e<((k.length:Nat):Int)) then(bG f.length e).bind λp=>(bt f p λm=>some m).bind λl=>(bG a.length l).bind λh=>(bt a h λn=>some n).bind λt=>(dd (t.length+([b]).length)).bind λ_=>(bG a.length l).bind λc=>bif Nat.beq h c&&true then(bt a c λo=>some o).bind λu=>(bt a c λ_=>some (a.set c (u++[b]))).bind λv=>
 some (.inl (IntKind.i64.wrap (e+(1:Int)),v,f,())) else none else some (.inr (a,()))) ((0:Int),i,k,())).bind λ(r,_)=>some (.inl (IntKind.i64.wrap (b+(1:Int)),r,())) else some (.inr (i,()))) ((0:Int),List.replicate q [],())).bind λ(s,_)=>some (s,(0:Int),()))
def uG:(cQ×cQ×Unit)->cN:=λ(b,c,_)=>(bif ((b.length:Nat):Int)!=((c.length:Nat):Int) then some (false,()) else((loop (σ:=cy) (ρ:=cm) (λ(a,_)=>cond (decide (a<((b.length:Nat):Int))) ((aQ b a).bind λf=>(aQ c a).bind λg=>cond (f !=g) (some (.inr (.inr (false,())))) (some (.inl (IntKind.i64.wrap (a+(1:Int)),())))) (some (.inr (.inl ())))) ((0:Int),())).bind λd=>match d with
 |.inl _=>(some (true,()))
 |.inr e=>some e))
section
open Go
def vR (c:cQ->cB) (a:cQ):Option Bool:=bif Nat.ble a.length 1000000 then(c a).bind λb=>bif Nat.ble b.length 1000000 then some (decide ((Lib.compact b).length<a.length)) else none else none
end
def xe:ca->cN:=λ(b,a,_)=>(cond (decide (a>=(0:Int))==true) (some (decide (a<(((b.1).length:Nat):Int)),())) (some (false,())))
def se:cy->cO:=λ(a,_)=>Option.bind (α:=cw) (cond (decide (a>=(65536:Int))) ((df IntKind.u32 a (16:Int)).bind λg=>some (g,(16:Int),())) (some (a,(0:Int),()))) λ(b,c,_)=>Option.bind (α:=cw) (cond (decide (b>=(256:Int))) ((df IntKind.u32 b (8:Int)).bind λh=>some (h,IntKind.i64.wrap (c+(8:Int)),())) (some (b,c,()))) λ(f,e,_)=>(ng yB (IntKind.u8.wrap f)).bind λd=>some (IntKind.i64.wrap (e+IntKind.i64.wrap d),())
def En:cy->cO:=λ(a,_)=>Option.bind (α:=cw) (cond (decide (a>=(4294967296:Int))) ((df IntKind.u64 a (32:Int)).bind λi=>some (i,(32:Int),())) (some (a,(0:Int),()))) λ(b,d,_)=>Option.bind (α:=cw) (cond (decide (b>=(65536:Int))) ((df IntKind.u64 b (16:Int)).bind λj=>some (j,IntKind.i64.wrap (d+(16:Int)),())) (some (b,d,()))) λ(c,e,_)=>Option.bind (α:=cw) (cond (decide (c>=(256:Int))) ((df IntKind.u64 c (8:Int)).bind λk=>some (k,IntKind.i64.wrap (e+(8:Int)),())) (some (c,e,()))) λ(h,g,_)=>(ng yB (IntKind.u8.wrap h)).bind λf=>some (IntKind.i64.wrap (g+IntKind.i64.wrap f),())
def Al:cy->cO:=λ(b,_)=>(En (b,())).bind λ(a,_)=>some (a,())
def xD:(cQ×Int×Int×Unit)->Option ct:=λ(k,f,j,_)=>(loop (σ:=ck) (ρ:=ct) (λ(d,g,_)=>bif decide (d<j) then(loop (σ:=ck) (ρ:=ct) (λ(a,c,_)=>Option.bind (α:=ct⊕(ck⊕ct)) (cond (decide (a>f)==true) ((bG c.length a).bind λu=>(bt c u λq=>some q).bind λy=>(bG c.length (IntKind.i64.wrap (a-(1:Int)))).bind λr=>(bt c r λn=>some n).bind λz=>(qs (y,z,())).bind λ(x,_)=>cond x (some (.inl (c,()))) (some (.inr (.inr (c,()))))) (some (.inr (.inr (c,()))))) λv=>match v with
 |.inl (b,_)=>((bG b.length (IntKind.i64.wrap (a-(1:Int)))).bind λs=>(bt b s λo=>some o).bind λA=>(bG b.length a).bind λt=>(bt b t λp=>some p).bind λB=>(bG b.length a).bind λh=>(bt b h λ_=>some (b.set h A)).bind λe=>(bG e.length (IntKind.i64.wrap (a-(1:Int)))).bind λi=>(bt e i λ_=>some (e.set i B)).bind λC=>some (.inl (IntKind.i64.wrap (a-(1:Int)),C,())))
 |.inr w=>some w) (d,g,())).bind λ(l,_)=>some (.inl (IntKind.i64.wrap (d+(1:Int)),l,())) else some (.inr (g,()))) (IntKind.i64.wrap (f+(1:Int)),k,())).bind λ(m,_)=>some (m,())
def xF:(cQ×Int×Int×Int×Unit)->Option ct:=λ(e,c,d,g,_)=>(loop (σ:=(Int×Int×Int×Bool×Bool×cQ×Unit)) (ρ:=ct) (λ(a,b,_,_,_,f,_)=>cond (decide (IntKind.i64.wrap (b-a)<=(12:Int))) ((xD (f,a,b,())).bind λ(h,_)=>some (.inr (h,()))) none) (c,d,g,true,true,e,())).bind some
def uB:ct->Option ct:=λ(a,_)=>(Al (IntKind.u64.wrap ((a.length:Nat):Int),())).bind λ(c,_)=>(xF (a,(0:Int),((a.length:Nat):Int),c,())).bind λ(b,_)=>some (b,())
def xd:cQ×Unit->cN:=λa=>(vR (λc=>(uB (c,())).map λd=>d.1) a.1).map λb=>(b,())
def Aj:(Int×Option cg×Unit)->cN:=λ(b,a,_)=>a.bind λc=>(xe (c,b,())).bind λ(aT,_)=>some ((!aT),())
def Ap:b1->cO:=λ(b,c,_)=>(loop (σ:=cy) (ρ:=cp) (λ(a,_)=>cond (decide (a<((b.length:Nat):Int))) ((aQ b a).bind λg=>(Aj (g,c.1,())).bind λ(f,_)=>cond f (some (.inr (.inr (a,())))) (some (.inl (IntKind.i64.wrap (a+(1:Int)),())))) (some (.inr (.inl ())))) ((0:Int),())).bind λd=>match d with
 |.inl _=>(some ((-1:Int),()))
 |.inr e=>some e
def xB:b1->cN:=λ(c,a,_)=>(Ap (c,(a.1,()),())).bind λ(b,_)=>some (decide (b>=(0:Int)),())
def w9:b5->cO:=λ(a,b,_)=>(uk (a,())).bind λ(c,_)=>(cond (c !=(0:Int)) (some (c,())) (cond (((b.length:Nat):Int)!=(((a.1).length:Nat):Int)) (some ((2:Int),())) ((xB (b,(some a,()),())).bind λ(aT,_)=>cond (aT==false) ((xd (b,())).bind λ(d,_)=>cond d (some ((90:Int),())) (some ((0:Int),()))) (some ((90:Int),())))))
def uo:cy->Option cf:=λ(a,_)=>(fj a a).bind λe=>(loop (σ:=(Int×cD×Unit)) (ρ:=cf) (λ(c,b,_)=>cond (decide (c<((((List.replicate e []):cD).length:Nat):Int))) ((fj a a).bind λf=>(bG b.length c).bind λd=>(bt b d λ_=>some (b.set d (List.replicate f false))).bind λh=>some (.inl (IntKind.i64.wrap (c+(1:Int)),h,()))) (some (.inr (b,())))) ((0:Int),List.replicate e [],())).bind λ(g,_)=>some (g,())
def us:(cD×Int×Int×Unit)->Option cf:=λ(a,d,e,_)=>(cond (d !=e) ((bG a.length d).bind λb=>(bG a.length e).bind λc=>((bt a b λm=>some m).bind λn=>bG n.length e).bind λi=>(bt a b λg=>(bt g i λ_=>some (g.set i true)).map λo=>a.set b o).bind λf=>((bt f c λk=>some k).bind λl=>bG l.length d).bind λj=>(bt f c λh=>(bt h j λ_=>some (h.set j true)).map λp=>f.set c p).bind λq=>some (q,())) (some (a,())))
def xa:(cD×Int×Unit)->Option ct:=λ(f,g,_)=>(aQ f g).bind λc=>(loop (σ:=ck) (ρ:=ct) (λ(a,b,_)=>cond (decide (a<((c.length:Nat):Int))) (Option.bind (α:=ct) ((aQ c a).bind λh=>cond h ((dd (b.length+([a]).length)).bind λ_=>some ((b++[a]),())) (some (b,()))) λ(d,_)=>some (.inl (IntKind.i64.wrap (a+(1:Int)),d,()))) (some (.inr (b,())))) ((0:Int),[],())).bind λ(e,_)=>some (e,())
def ur:cf->Option cc:=λ(b,_)=>(fj ((b.length:Nat):Int) ((b.length:Nat):Int)).bind λg=>(loop (σ:=(Int×cg×cg×Unit)) (ρ:=(cg×cg×Unit)) (λ(c,e,a,_)=>cond (decide (c<((b.length:Nat):Int))) ((xa (b,c,())).bind λ(h,_)=>(bG (a.1).length c).bind λd=>((bt a.1 d λ_=>some ((a.1).set d h)).map λi=>(i,a.2)).bind λj=>some (.inl (IntKind.i64.wrap (c+(1:Int)),e,j,()))) (some (.inr (e,a,())))) ((0:Int),([],()),(List.replicate g [],()),())).bind λ(_,f,_)=>some (f,())
def xc:b5->Option cc:=λ(k,a,_)=>(uo (((a.length:Nat):Int),())).bind λ(o,_)=>(loop (σ:=b2) (ρ:=b3) (λ(b,i,j,_)=>bif decide (b<((a.length:Nat):Int)) then(aQ a b).bind λv=>((some (0)).bind λg=>(gW b).bind λh=>(g9 g h a.length).map λ_=>(g,h)).bind λc=>(loop (σ:=b2) (ρ:=b3) (λ(d,e,f,_)=>bif decide (d<((((a.take c.2).drop c.1).length:Nat):Int)) then Option.bind (α:=b3) ((aQ ((a.take c.2).drop c.1) d).bind λu=>(r8 (k,v,u,())).bind λ(m,_)=>cond m ((us (f,b,d,())).bind λ(l,_)=>some (e,l,())) (some (e,f,()))) λ(p,q,_)=>
 some (.inl (IntKind.i64.wrap (d+(1:Int)),p,q,())) else some (.inr (e,f,()))) ((0:Int),i,j,())).bind λ(r,s,_)=>some (.inl (IntKind.i64.wrap (b+(1:Int)),r,s,())) else some (.inr (i,j,()))) ((0:Int),([],()),o,())).bind λ(_,t,_)=>(ur (t,())).bind λ(n,_)=>some (n,())
def uq:b5->Option ca:=λ(a,b,_)=>(w9 (a,b,())).bind λ(c,_)=>(cond (c !=(0:Int)) (some (([],()),c,())) ((xc (a,b,())).bind λ(aT,_)=>some (aT,(0:Int),())))
def r4:cw->cO:=λ(a,b,_)=>(o3 (a,())).bind λ(c,_)=>(o3 (b,())).bind λ(aT,_)=>(cond c (cond aT (some ((0:Int),())) (some ((-1:Int),()))) (cond aT (some ((1:Int),())) (cond (decide (a<b)) (some ((-1:Int),())) (cond (decide (a>b)) (some ((1:Int),())) (some ((0:Int),()))))))
def wQ:ct->cO:=λ(b,_)=>(loop (σ:=cy) (ρ:=cp) (λ(a,_)=>cond (decide (a<((b.length:Nat):Int))) ((aQ b a).bind λc=>cond (c !=(0:Int)) (some (.inr (.inr (c,())))) (some (.inl (IntKind.i64.wrap (a+(1:Int)),())))) (some (.inr (.inl ())))) ((0:Int),())).bind λd=>match d with
 |.inl _=>(some ((0:Int),()))
 |.inr e=>some e
abbrev a8:Type:=cQ
abbrev eC:Type:=(a8×Unit)
abbrev c6:Type:=(Bool×eC)
abbrev be:Type:=cy
abbrev bX:Type:=(Bool×(c6×be))
abbrev Dp:Type:=(a8×(a8×eC))
abbrev lI:Type:=(List bX)
abbrev jY:Type:=(List (Int×(Int×be)))
abbrev jo:Type:=(List a8×(List a8×(List (Option (List (Int×bX)×Nat))×(List a8×Unit))))
abbrev bQ:Type:=(Int×(Int×Dp))
abbrev ew:Type:=cx
abbrev kY:Type:=(Int×((List a8×Unit)×(List (Option (List (Int×bX)×Nat))×Unit)))
abbrev iZ:Type:=(a8×Dp)
abbrev e7:Type:=(bX×Unit)
abbrev ep:Type:=(c6×Unit)
abbrev rS:Type:=(bX×bX×Unit)
abbrev g5:Type:=(Int×a8×Unit)
abbrev nG:Type:=cM
abbrev zQ:Type:=(iZ×Int×Int×Unit)
abbrev oQ:Type:=(Unit⊕ew)
abbrev i4:Type:=(jY×Unit)
abbrev qi:Type:=(Int×jY×Unit)
abbrev jX:Type:=(a8×a8×Unit)
abbrev ks:Type:=(c6×c6×Unit)
abbrev lJ:Type:=(Unit⊕be)
abbrev lK:Type:=(a8×Int×Unit)
abbrev kZ:Type:=cw
abbrev Dq:Type:=(Int×Int×jY×Unit)
abbrev oR:Type:=(Bool×(c6×(Int×ew)))
abbrev oS:Type:=(Int×Int×a8×Unit)
abbrev lL:Type:=(c6×Int×Unit)
abbrev mK:Type:=(bQ×Unit)
def mS:eC->Option eC:=λ(c,_)=>(loop (σ:=be) (ρ:=be) (λ(a,_)=>Option.bind (α:=Unit⊕(be⊕be)) (cond (decide (a>0)==true) ((aQ c (ax (a-1))).bind λj=>cond (j==0) (some (.inl ())) (some (.inr (.inr (a,()))))) (some (.inr (.inr (a,()))))) λh=>match h with
 |.inl _=>(some (.inl (ax (a-1),())))
 |.inr i=>some i) (aw c,())).bind λ(f,_)=>(loop (σ:=g5) (ρ:=eC) (λ(b,d,_)=>cond (decide (b<f)) ((aQ c b).bind λe=>(dd (d.length+([e]).length)).bind λ_=>some (.inl (a7 b,(d++[e]),()))) (some (.inr (d,())))) (0,[],())).bind λ(g,_)=>some (g,())
def kA:(Bool×a8×Unit)->Option ep:=λ(c,b,_)=>(mS (b,())).bind λ(a,_)=>(cond (c==true) (some ((decide (aw a>0),(a,())),())) (some ((false,(a,())),())))
def sk:be->Option ep:=λ(a,_)=>Option.bind (α:=(Int×c6×Unit)) (cond (decide (a<0)) (some (aH (aH (ax (0-a7 a))+1),(false,([],())),())) (some (aH a,(false,([],())),()))) λ(b,_,_)=>(df IntKind.u64 b 32).bind λd=>(kA (decide (a<0),[bL b,bL d],())).bind λ(c,_)=>some (c,())
def o7:ep->Option ep:=λ(a,_)=>(kA (a.1,a.2.1,())).bind λ(b,_)=>some (b,())
def qC:Unit->Option e7:=λ_=>some ((true,((false,([],())),((0:Int),()))),())
def sf:be->Option be:=λ(a,_)=>(cond (a==0) (some (32,())) ((df IntKind.u32 (bL (bD IntKind.u32 a (bL (0-a))*125613361)) 27).bind λb=>(aQ mN b).bind λc=>some (ax c,())))
def nP:ep->Option be:=λ(c,_)=>(mS (c.2.1,())).bind λ(b,_)=>(loop (σ:=be) (ρ:=lJ) (λ(a,_)=>cond (decide (a<aw b)) ((aQ b a).bind λg=>cond (g !=0) ((aQ b a).bind λh=>(sf (h,())).bind λ(f,_)=>some (.inr (.inr (ax (ax (32*a)+f),())))) (some (.inl (a7 a,())))) (some (.inr (.inl ())))) (0,())).bind λd=>match d with
 |.inl _=>(some (0,()))
 |.inr e=>some e
def sj:ep->Option ep:=λ(a,_)=>(kA (false,a.2.1,())).bind λ(b,_)=>some (b,())
def xN:lK->Option eC:=λ(f,g,_)=>(gY IntKind.i64 g 32).bind λi=>(fj i i).bind λj=>(loop (σ:=oS) (ρ:=g5) (λ(a,b,c,_)=>cond (decide (b<aw f)) ((aQ f b).bind λl=>(gn g 32).bind λm=>(fN IntKind.u64 (aH l) m).bind λd=>(dd (c.length+([bL (dQ IntKind.u64 a d)]).length)).bind λ_=>(df IntKind.u64 (dQ IntKind.u64 a d) 32).bind λk=>some (.inl (k,a7 b,(c++[bL (dQ IntKind.u64 a d)]),()))) (some (.inr (a,c,())))) (0,0,List.replicate j (0:Int),())).bind λ(e,h,_)=>(dd (h.length+([bL e]).length)).bind λ_=>some ((h++[bL e]),())
def uJ:lK->Option (a8×Bool×Unit):=λ(b,d,_)=>(loop (σ:=cu) (ρ:=ew) (λ(e,c,_)=>Option.bind (α:=Unit⊕(cu⊕ew)) ((gY IntKind.i64 d 32).bind λw=>cond (decide (c<w)==true) (cond (decide (c<aw b)) (some (.inl ())) (some (.inr (.inr (e,()))))) (some (.inr (.inr (e,()))))) λt=>match t with
 |.inl _=>(Option.bind (α:=ew) (cond (e==false) ((aQ b c).bind λx=>some ((x !=0),())) (some (true,()))) λ(m,_)=>some (.inl (m,a7 c,())))
 |.inr u=>some u) (false,0,())).bind λ(n,_)=>(gn d 32).bind λj=>(gY IntKind.i64 d 32).bind λy=>(loop (σ:=(Bool×Int×a8×Unit)) (ρ:=(Bool×a8×Unit)) (λ(f,a,g,_)=>bif decide (a<aw b) then Option.bind (α:=(Bool×a8×Unit)) ((aQ b a).bind λk=>Option.bind (α:=g5) (cond (decide (a7 a<aw b)) ((aQ b (a7 a)).bind λz=>(fN IntKind.u64 (aH z) 32).bind λA=>some (dQ IntKind.u64 (aH k) A,g,())) (some (aH k,g,()))) λ(v,h,_)=>Option.bind (α:=(Bool×a8×Unit)) ((gY IntKind.i64 d 32).bind λB=>cond ((a==B)==true) ((aQ b a).bind λC=>(fN IntKind.u32 1 j).bind λD=>cond (bD IntKind.u32 C (bL (D-1))!=0) (some (true,h,())) (some (f,h,()))) (some (f,h,()))) λ(o,i,_)=>(df IntKind.u64 v j).bind λl=>(dd (i.length+([bL l]).length)).bind λ_=>some (o,(i++[bL l]),())) λ(p,r,_)=>some (.inl (p,a7 a,r,())) else
 some (.inr (f,g,()))) (n,y,[],())).bind λ(q,s,_)=>some (s,q,())
def xJ:ep->Option ep:=λ(a,_)=>(kA ((!a.1),a.2.1,())).bind λ(b,_)=>some (b,())
def xL:jX->Option eC:=λ(b,c,_)=>(loop (σ:=oS) (ρ:=g5) (λ(e,a,f,_)=>cond (decide (a<(if(aw c)>aw b then aw c else aw b))) (Option.bind (α:=g5) (Option.bind (α:=g5) (cond (decide (a<aw b)) ((aQ b a).bind λo=>some (aH (e+aH o),f,())) (some (e,f,()))) λ(h,k,_)=>Option.bind (α:=g5) (cond (decide (a<aw c)) ((aQ c a).bind λp=>some (aH (h+aH p),k,())) (some (h,k,()))) λ(d,i,_)=>(dd (i.length+([bL d]).length)).bind λ_=>(df IntKind.u64 d 32).bind λn=>some (n,(i++[bL d]),())) λ(l,m,_)=>some (.inl (l,a7 a,m,()))) (some (.inr (e,f,())))) (0,0,[],())).bind λ(g,j,_)=>(dd (j.length+([bL g]).length)).bind λ_=>some ((j++[bL g]),())
def xM:jX->Option be:=λ(b,c,_)=>(bif aw b !=aw c then cond (decide (aw b<aw c)) (some ((-1:Int),())) (some (1,())) else((loop (σ:=be) (ρ:=lJ) (λ(a,_)=>cond (decide (a>=0)) ((aQ b a).bind λf=>(aQ c a).bind λg=>cond (f !=g) ((aQ b a).bind λh=>(aQ c a).bind λi=>cond (decide (h<i)) (some (.inr (.inr ((-1:Int),())))) (some (.inr (.inr (1,()))))) (some (.inl (ax (a-1),())))) (some (.inr (.inl ())))) (ax (aw b-1),())).bind λd=>match d with
 |.inl _=>(some (0,()))
 |.inr e=>some e))
def uK:jX->Option eC:=λ(d,e,_)=>(loop (σ:=oS) (ρ:=eC) (λ(f,a,b,_)=>cond (decide (a<aw d)) (Option.bind (α:=g5) ((aQ d a).bind λh=>Option.bind (α:=g5) (cond (decide (a<aw e)) ((aQ e a).bind λm=>some (aH (aH (aH h-f)-aH m),b,())) (some (aH (aH h-f),b,()))) λ(c,g,_)=>(dd (g.length+([bL c]).length)).bind λ_=>(df IntKind.u64 c 63).bind λl=>some (l,(g++[bL c]),())) λ(i,j,_)=>some (.inl (i,a7 a,j,()))) (some (.inr (b,())))) (0,0,[],())).bind λ(k,_)=>some (k,())
def qB:ks->Option ep:=λ(a,c,_)=>(mS (a.2.1,())).bind λ(b,_)=>(mS (c.2.1,())).bind λ(aT,_)=>(cond (a.1==c.1) ((xL (b,aT,())).bind λ(f,_)=>(kA (a.1,f,())).bind λ(g,_)=>some (g,())) ((xM (b,aT,())).bind λ(h,_)=>cond (decide (h>=0)) ((uK (b,aT,())).bind λ(i,_)=>(kA (a.1,i,())).bind λ(j,_)=>some (j,())) ((uK (aT,b,())).bind λ(d,_)=>(kA (c.1,d,())).bind λ(e,_)=>some (e,()))))
def xK:ks->Option ep:=λ(a,b,_)=>(xJ (b,())).bind λ(c,_)=>(qB (a,c,())).bind λ(aT,_)=>some (aT,())
def lU:lL->Option ep:=λ(f,b,_)=>(o7 (f,())).bind λ(a,_)=>(cond (decide (b>=0)) ((xN (a.2.1,b,())).bind λ(aT,_)=>(kA (a.1,aT,())).bind λ(j,_)=>some (j,())) ((uJ (a.2.1,ax (0-b),())).bind λ(k,l,_)=>(kA (a.1,k,())).bind λ(d,_)=>Option.bind (α:=ks) (Option.bind (α:=(Bool×c6×c6×Unit)) (cond (a.1==true) (some (l,(false,([],())),d,())) (some (false,(false,([],())),d,()))) λ(m,e,c,_)=>cond m ((sk (1,())).bind λ(h,_)=>(xK (c,h,())).bind λ(i,_)=>some (e,i,())) (some (e,c,()))) λ(_,g,_)=>some (g,())))
def sl:lL->Option ep:=λ(d,f,_)=>(loop (σ:=(Int×c6×c6×Unit)) (ρ:=(Int×c6×c6×Unit)) (λ(a,b,c,_)=>cond (decide (a>1048576)) ((lU (b,(-1048576:Int),())).bind λ(i,_)=>some (.inl (ax (a-1048576),i,c,()))) (some (.inr (a,b,c,())))) (f,d,(false,([],())),())).bind λ(g,e,_,_)=>(lU (e,ax (0-g),())).bind λ(h,_)=>some (h,())
def uH:ep->Option be:=λ(b,_)=>(mS (b.2.1,())).bind λ(a,_)=>(cond (aw a==0) (some (0,())) ((aQ a (ax (aw a-1))).bind λc=>(se (c,())).bind λ(aT,_)=>some (ax (ax (32*ax (aw a-1))+aT),())))
def mT:lL->Option e7:=λ(e,a,_)=>(o7 (e,())).bind λ(c,_)=>(bif aw c.2.1==0 then some ((false,((false,([],())),((0:Int),()))),()) else bif decide (a>65536) then(qC ()).bind λ(aT,_)=>some (aT,()) else((nP (c,())).bind λ(b,_)=>(sj (c,())).bind λ(k,_)=>(sl (k,b,())).bind λ(d,_)=>Option.bind (α:=(bX×c6×Unit)⊕e7) (Option.bind (α:=(Bool×bX×c6×Unit)) (cond (decide (ax (a+b)<(-65536:Int))==false) ((uH (d,())).bind λ(l,_)=>some (decide (ax (ax (a+b)+l)>65536),(false,((false,([],())),((0:Int),()))),d,())) (some (true,(false,((false,([],())),((0:Int),()))),d,()))) λ(n,m,f,_)=>cond n ((qC ()).bind λ(j,_)=>some (.inr (j,()))) (some (.inl (m,f,())))) λh=>match h with
 |.inl (_,g,_)=>(some ((false,((e.1,g.2),(ax (a+b),()))),()))
 |.inr i=>some i))
def uL:be->Option e7:=λ(a,_)=>(sk (a,())).bind λ(b,_)=>(mT (b,0,())).bind λ(c,_)=>some (c,())
def qD:e7->Option e7:=λ(a,_)=>(cond a.1 ((qC ()).bind λ(b,_)=>some (b,())) ((mT (a.2.1,a.2.2.1,())).bind λ(c,_)=>some (c,())))
def nO:ep->Option be:=λ(b,_)=>(o7 (b,())).bind λ(a,_)=>(cond (aw a.2.1==0) (some (0,())) (cond a.1 (some ((-1:Int),())) (some (1,()))))
def nQ:cu->Option be:=λ(b,a,_)=>(cond b (some (dQ IntKind.u64 a 9223372036854775808,())) (some (a,())))
def uO:cu->Option be:=λ(a,b,_)=>Option.bind (α:=Unit⊕be) (Option.bind (α:=ew) (cond ((b==3)==false) (cond ((b==1)==true) (cond ((!a)==false) (cond ((b==2)==true) (some (a,())) (some (false,()))) (some (true,()))) (cond ((b==2)==true) (some (a,())) (some (false,())))) (some (true,()))) λ(f,_)=>cond f ((nQ (a,9218868437227405311,())).bind λ(aT,_)=>some (.inr (aT,()))) (some (.inl ()))) λc=>match c with
 |.inl _=>((nQ (a,9218868437227405312,())).bind λ(e,_)=>some (e,()))
 |.inr d=>some d
def uI:lL->Option ew:=λ(a,b,_)=>(mS (a.2.1,())).bind λ(c,_)=>(uJ (c,b,())).bind λ(_,d,_)=>some (d,())
def xS:(Bool×Int×Bool×Int×Unit)->Option ew:=λ(c,b,d,a,_)=>(cond (a==1) (some (c,())) (cond (a==2) (some ((!c),())) (cond (a==3) (some (false,())) (cond (decide (b>0)==false) (cond ((b==0)==true) (some (d,())) (some (false,()))) (some (true,()))))))
def xP:(Bool×c6×Int×Bool×Int×Unit)->Option ep:=λ(q,b,a,h,p,_)=>(sl (b,a,())).bind λ(l,_)=>(uI (b,a,())).bind λ(D,_)=>Option.bind (α:=ks⊕ep) (Option.bind (α:=(Bool×c6×c6×Unit)) (cond ((!D)==true) (some ((!h),(false,([],())),l,())) (some (false,(false,([],())),l,()))) λ(F,G,i,_)=>cond F (some (.inr (i,()))) (some (.inl (G,i,())))) λs=>match s with
 |.inl (g,f,_)=>(Option.bind (α:=(Int×c6×c6×Unit)) (cond (decide (a>0)) ((sl (b,ax (a-1),())).bind λ(k,_)=>Option.bind (α:=(Bool×c6×c6×Unit)) ((nP (k,())).bind λ(v,_)=>cond ((v==0)==true) ((nO (k,())).bind λ(w,_)=>some ((w !=0),g,f,())) (some (false,g,f,()))) λ(E,e,c,_)=>cond E (cond (h==false) ((uI (b,ax (a-1),())).bind λ(x,_)=>cond x (some (1,e,c,())) (some (0,e,c,()))) (some (1,e,c,()))) (some ((-1:Int),e,c,()))) (some ((-1:Int),g,f,()))) λ(o,m,d,_)=>Option.bind (α:=(Bool×c6×c6×Unit)) ((nO (d,())).bind λ(y,_)=>cond ((y !=0)==true) ((nP (d,())).bind λ(z,_)=>some ((z==0),m,d,())) (some (false,m,d,()))) λ(r,n,j,_)=>Option.bind (α:=ks) ((xS (q,o,r,p,())).bind λ(A,_)=>
  cond A ((sk (1,())).bind λ(B,_)=>(qB (j,B,())).bind λ(C,_)=>some (n,C,())) (some (n,j,()))) λ(_,t,_)=>some (t,()))
 |.inr u=>some u
def xI:ep->Option cr:=λ(f,_)=>(o7 (f,())).bind λ(d,_)=>(cond (decide (aw d.2.1>2)) (some (0,false,())) ((loop (σ:=(Int×Int×c6×Unit)) (ρ:=(Int×c6×Unit)) (λ(e,b,a,_)=>cond (decide (b<aw a.2.1)) ((aQ a.2.1 b).bind λh=>(fN IntKind.u64 (aH h) (ax (32*b))).bind λi=>some (.inl (dQ IntKind.u64 e i,a7 b,a,()))) (some (.inr (e,a,())))) (0,0,d,())).bind λ(c,g,_)=>cond g.1 (cond (decide (c>9223372036854775808)) (some (0,false,())) (some (ax (ax (0-ax (aH (c-1)))-1),true,()))) (cond (decide (c>9223372036854775807)) (some (0,false,())) (some (ax c,true,())))))
def xV:(Bool×c6×Int×Bool×Int×Unit)->Option be:=λ(c,e,a,i,f,_)=>(uH (e,())).bind λ(b,_)=>(bif decide (ax (ax (a+b)-1)>=1024) then(uO (c,f,())).bind λ(p,_)=>some (p,()) else(Option.bind (α:=ep) (cond (decide ((if(-1074:Int)>ax (ax (ax (a+b)-1)-52) then(-1074:Int) else ax (ax (ax (a+b)-1)-52))>=a)) ((xP (c,e,ax ((if(-1074:Int)>ax (ax (ax (a+b)-1)-52) then(-1074:Int) else ax (ax (ax (a+b)-1)-52))-a),i,f,())).bind λ(q,_)=>some (q,())) ((lU (e,ax (a-(if(-1074:Int)>ax (ax (ax (a+b)-1)-52) then(-1074:Int) else ax (ax (ax (a+b)-1)-52))),())).bind λ(r,_)=>some (r,()))) λ(j,_)=>(xI (j,())).bind λ(g,_,_)=>Option.bind (α:=kZ) (bif g==9007199254740992 then some (a7 (if(-1074:Int)>ax (ax (ax (a+b)-1)-52) then(-1074:Int) else ax (ax (ax (a+b)-1)-52)),4503599627370496,()) else
 some ((if(-1074:Int)>ax (ax (ax (a+b)-1)-52) then(-1074:Int) else ax (ax (ax (a+b)-1)-52)),g,())) λ(h,d,_)=>Option.bind (α:=Unit⊕be) (Option.bind (α:=ew) (cond (decide (d>=4503599627370496)==true) (some (decide (ax (h+53)>1024),())) (some (false,()))) λ(s,_)=>cond s ((uO (c,f,())).bind λ(m,_)=>some (.inr (m,()))) (cond (decide (d>=4503599627370496)) ((fN IntKind.u64 (aH (ax (h+1075))) 52).bind λt=>(nQ (c,dQ IntKind.u64 t (aH (ax (d-4503599627370496))),())).bind λ(n,_)=>some (.inr (n,()))) (some (.inl ())))) λk=>match k with
 |.inl _=>((nQ (c,aH d,())).bind λ(o,_)=>some (o,()))
 |.inr l=>some l))
def sn:(bX×Int×Unit)->Option be:=λ(b,c,_)=>(qD (b,())).bind λ(a,_)=>(cond a.1 (some (9221120237041090560,())) ((nO (a.2.1,())).bind λ(aT,_)=>cond (aT==0) (some (0,())) ((sj (a.2.1,())).bind λ(d,_)=>(xV (a.2.1.1,d,a.2.2.1,false,c,())).bind λ(e,_)=>some (e,()))))
def qE:kZ->Option be:=λ(b,a,_)=>(uL (b,())).bind λ(c,_)=>(sn (c,a,())).bind λ(aT,_)=>some (aT,())
def r7:be->Option kZ:=λ(a,_)=>(df IntKind.u64 a 52).bind λb=>some (ax (bD IntKind.u64 b 2047),bD IntKind.u64 a 4503599627370495,())
def qt:be->Option ew:=λ(a,_)=>(r7 (a,())).bind λ(b,_,_)=>some ((b !=2047),())
def fL:eC->Option eC:=λ(b,_)=>(loop (σ:=be) (ρ:=be) (λ(a,_)=>Option.bind (α:=Unit⊕(be⊕be)) (cond (decide (a>0)==true) ((aQ b (ax (a-1))).bind λi=>cond (i==0) (some (.inl ())) (some (.inr (.inr (a,()))))) (some (.inr (.inr (a,()))))) λg=>match g with
 |.inl _=>(some (.inl (ax (a-1),())))
 |.inr h=>some h) (aw b,())).bind λ(f,_)=>((some (0)).bind λc=>(gW f).bind λd=>(g9 c d b.length).map λ_=>(c,d)).bind λe=>some (((b.take e.2).drop e.1),())
def iH:(Bool×a8×Unit)->Option ep:=λ(c,b,_)=>(fL (b,())).bind λ(a,_)=>(cond (aw a==0) (some ((false,(([]:a8),())),())) (some ((c,(a,())),())))
def sa:be->Option ep:=λ(a,_)=>Option.bind (α:=(Int×c6×Unit)) (cond (decide (a<0)) (some (aH (0-aH a),(false,([],())),())) (some (aH a,(false,([],())),()))) λ(b,_,_)=>(df IntKind.u64 b 32).bind λd=>(iH (decide (a<0),[bL (bD IntKind.u64 b 4294967295),bL d],())).bind λ(c,_)=>some (c,())
def w7:be->Option ew:=λ(a,_)=>some ((bD IntKind.u64 a 9223372036854775808 !=0),())
def qA:eC->Option eC:=λ(a,_)=>lf a.length (some ([],())) ((dd (([]:a8).length+a.length)).bind λ_=>some (([]++a),()))
def o5:ep->Option ep:=λ(a,_)=>(qA (a.2.1,())).bind λ(b,_)=>(iH ((!a.1),b,())).bind λ(c,_)=>some (c,())
def uh:Unit->Option e7:=λ_=>some ((true,((false,([],())),((0:Int),()))),())
def xh:ep->Option ep:=λ(a,_)=>(qA (a.2.1,())).bind λ(b,_)=>(iH (a.1,b,())).bind λ(c,_)=>some (c,())
def lT:ep->Option be:=λ(a,_)=>(fL (a.2.1,())).bind λ(b,_)=>(cond (aw b==0) (some (0,())) (cond a.1 (some ((-1:Int),())) (some (1,()))))
def uw:ep->Option be:=λ(b,_)=>(loop (σ:=be) (ρ:=lJ) (λ(a,_)=>cond (decide (a<aw b.2.1)) ((aQ b.2.1 a).bind λc=>cond (c !=0) ((sf (c,())).bind λ(aT,_)=>some (.inr (.inr (ax (ax (a*32)+aT),())))) (some (.inl (a7 a,())))) (some (.inr (.inl ())))) (0,())).bind λd=>match d with
 |.inl _=>(some (0,()))
 |.inr e=>some e
def sc:eC->Option be:=λ(a,_)=>(cond (aw a==0) (some (0,())) ((aQ a (ax (aw a-1))).bind λc=>(se (c,())).bind λ(b,_)=>some (ax (ax (ax (aw a-1)*32)+b),())))
def nM:ep->Option be:=λ(a,_)=>(fL (a.2.1,())).bind λ(b,_)=>(sc (b,())).bind λ(c,_)=>some (c,())
def qz:lK->Option eC:=λ(b,e,_)=>(cond (aw b==0) (some ([],())) ((gY IntKind.i64 e 32).bind λc=>(gn e 32).bind λj=>(fj (a7 (ax (c+aw b))) (a7 (ax (c+aw b)))).bind λg=>(loop (σ:=g5) (ρ:=eC) (λ(a,d,_)=>cond (decide (a<aw b)) ((aQ b a).bind λk=>(fN IntKind.u64 (aH k) (aH j)).bind λf=>rd d (ax (c+a)) λl=>wr d (ax (c+a)) (dQ IntKind.u32 l (bL (bD IntKind.u64 f 4294967295))) λn=>(df IntKind.u64 f 32).bind λm=>wr n (a7 (ax (c+a))) (bL m) λo=>some (.inl (a7 a,o,()))) (some (.inr (d,())))) (0,List.replicate g (0:Int),())).bind λ(h,_)=>(fL (h,())).bind λ(i,_)=>some (i,())))
def Ak:be->Option ew:=λ(a,_)=>some ((a !=0),())
def Aq:(a8×Unit×Unit)->Option be:=λ(b,_,_)=>(loop (σ:=be) (ρ:=lJ) (λ(a,_)=>cond (decide (a<aw b)) ((aQ b a).bind λf=>(Ak (f,())).bind λ(e,_)=>cond e (some (.inr (.inr (a,())))) (some (.inl (a7 a,())))) (some (.inr (.inl ())))) (0,())).bind λc=>match c with
 |.inl _=>(some ((-1:Int),()))
 |.inr d=>some d
def uA:(a8×Unit×Unit)->Option ew:=λ(b,_,_)=>(Aq (b,(),())).bind λ(a,_)=>some (decide (a>=0),())
def sb:lK->Option (a8×Bool×Unit):=λ(a,h,_)=>(gY IntKind.i64 h 32).bind λb=>(gn h 32).bind λj=>(bif decide (b>=aw a) then some ([],decide (aw a>0),()) else Option.bind (α:=ew) (((some (0)).bind λe=>(gW b).bind λf=>(g9 e f a.length).map λ_=>(e,f)).bind λi=>(uA (((a.take i.2).drop i.1),(),())).bind λ(p,_)=>cond (p==false) ((aQ a b).bind λs=>(fN IntKind.u32 1 (aH j)).bind λt=>some ((bD IntKind.u32 s (bL (t-1))!=0),())) (some (true,()))) λ(l,_)=>(fj (ax (aw a-b)) (ax (aw a-b))).bind λg=>(loop (σ:=g5) (ρ:=eC) (λ(c,d,_)=>bif decide (c<aw (List.replicate g (0:Int))) then Option.bind (α:=eC) ((aQ a (ax (b+c))).bind λk=>Option.bind (α:=g5) (cond (decide (a7 (ax (b+c))<aw a)) ((aQ a (a7 (ax (b+c)))).bind λu=>(fN IntKind.u64 (aH u) 32).bind λv=>some (dQ IntKind.u64 (aH k) v,d,())) (some (aH k,d,()))) λ(r,m,_)=>
 (df IntKind.u64 r (aH j)).bind λw=>wr m c (bL (bD IntKind.u64 w 4294967295)) λx=>some (x,())) λ(n,_)=>some (.inl (a7 c,n,())) else some (.inr (d,()))) (0,List.replicate g (0:Int),())).bind λ(o,_)=>(fL (o,())).bind λ(q,_)=>some (q,l,()))
def qy:jX->Option eC:=λ(b,d,_)=>Option.bind (α:=jX) (cond (decide (aw b<aw d)) (some (d,b,())) (some (b,d,()))) λ(c,h,_)=>(fj 0 (a7 (aw c))).bind λn=>(loop (σ:=oS) (ρ:=g5) (λ(e,a,f,_)=>cond (decide (a<aw c)) (Option.bind (α:=g5) ((aQ c a).bind λl=>Option.bind (α:=g5) (cond (decide (a<aw h)) ((aQ h a).bind λq=>some (aH (aH (aH l+e)+aH q),f,())) (some (aH (aH l+e),f,()))) λ(g,j,_)=>(dd (j.length+([bL (bD IntKind.u64 g 4294967295)]).length)).bind λ_=>(df IntKind.u64 g 32).bind λr=>some (r,(j++[bL (bD IntKind.u64 g 4294967295)]),())) λ(m,o,_)=>some (.inl (m,a7 a,o,()))) (some (.inr (e,f,())))) (0,0,List.replicate n (0:Int),())).bind λ(i,k,_)=>(dd (k.length+([bL i]).length)).bind λ_=>(fL ((k++[bL i]),())).bind λ(p,_)=>some (p,())
def nN:lL->Option lL:=λ(b,a,_)=>Option.bind (α:=ep⊕lL) (Option.bind (α:=(Bool×c6×Unit)) (cond (decide (a<(-1048576:Int))==false) (some (decide (a>1048576),(false,([],())),())) (some (true,(false,([],())),()))) λ(p,q,_)=>cond p (some (.inr ((false,(([]:a8),())),3,()))) (some (.inl (q,())))) λh=>match h with
 |.inl (f,_)=>((fL (b.2.1,())).bind λ(c,_)=>cond (decide (a>=0)) ((qz (c,a,())).bind λ(m,_)=>(iH (b.1,m,())).bind λ(n,_)=>some (n,0,())) ((sb (c,ax (0-a),())).bind λ(d,j,_)=>Option.bind (α:=(a8×c6×Unit)) (Option.bind (α:=(Bool×c6×Unit)) (cond (b.1==true) (some (j,f,())) (some (false,f,()))) λ(o,e,_)=>cond o ((qy (d,[1],())).bind λ(k,_)=>some (k,e,())) (some (d,e,()))) λ(g,_,_)=>(iH (b.1,g,())).bind λ(l,_)=>some (l,0,())))
 |.inr i=>some i
def ui:lL->Option ep:=λ(d,f,_)=>(loop (σ:=(Int×c6×c6×Unit)) (ρ:=(Int×c6×c6×Unit)) (λ(a,b,c,_)=>cond (decide (a>1048576)) ((nN (b,(-1048576:Int),())).bind λ(i,_,_)=>some (.inl (ax (a-1048576),i,c,()))) (some (.inr (a,b,c,())))) (f,d,(false,([],())),())).bind λ(g,e,_,_)=>(nN (e,ax (0-g),())).bind λ(h,_,_)=>some (h,())
def lS:e7->Option (bX×Bool×Unit):=λ(a,_)=>(bif a.1 then(uh ()).bind λ(j,_)=>some (j,false,()) else(xh (a.2.1,())).bind λ(b,_)=>(lT (b,())).bind λ(aT,_)=>bif aT==0 then some ((false,((false,([],())),((0:Int),()))),true,()) else((uw (b,())).bind λ(c,_)=>Option.bind (α:=(bX×c6×Unit)⊕(bX×Bool×Unit)) (Option.bind (α:=(Bool×bX×c6×Unit)) ((nM (b,())).bind λ(k,_)=>cond (decide (a.2.2.1>ax (65536-k))==false) (some (decide (a.2.2.1<ax ((-65536:Int)-c)),(false,((false,([],())),((0:Int),()))),b,())) (some (true,(false,((false,([],())),((0:Int),()))),b,()))) λ(l,m,e,_)=>cond l ((uh ()).bind λ(h,_)=>some (.inr (h,false,()))) (some (.inl (m,e,())))) λf=>match f with
 |.inl (_,d,_)=>((ui (d,c,())).bind λ(i,_)=>some ((false,(i,(ax (a.2.2.1+c),()))),true,()))
 |.inr g=>some g))
def r5:lL->Option e7:=λ(b,a,_)=>(lS ((false,(b,(a,()))),())).bind λ(c,_,_)=>some (c,())
def qu:be->Option e7:=λ(b,_)=>(r7 (b,())).bind λ(a,c,_)=>Option.bind (α:=(Int×Int×bX×Unit)⊕e7) (cond (a==2047) (some (.inr ((true,((false,([],())),((0:Int),()))),()))) (cond (a==0) (some (.inl ((-1074:Int),c,(false,((false,([],())),((0:Int),()))),()))) (some (.inl (ax (a-1075),dQ IntKind.u64 c 4503599627370496,(false,((false,([],())),((0:Int),()))),()))))) λi=>match i with
 |.inl (f,g,e,_)=>((sa (ax g,())).bind λ(d,_)=>Option.bind (α:=(bX×c6×Unit)) ((w7 (b,())).bind λ(l,_)=>cond l ((o5 (d,())).bind λ(m,_)=>some (e,m,())) (some (e,d,()))) λ(_,h,_)=>(r5 (h,f,())).bind λ(k,_)=>some (k,()))
 |.inr j=>some j
def wZ:rS->Option (bX×bX×Bool×Unit):=λ(c,d,_)=>(lS (c,())).bind λ(a,aT,_)=>(lS (d,())).bind λ(b,e,_)=>(cond (aT==true) (some (a,b,e,())) (some (a,b,false,())))
def xm:jX->Option eC:=λ(c,a,_)=>Option.bind (α:=Unit⊕eC) (cond ((aw c==0)==false) (cond (aw a==0) (some (.inr ([],()))) (some (.inl ()))) (some (.inr ([],())))) λo=>match o with
 |.inl _=>((fj (ax (aw c+aw a)) (ax (aw c+aw a))).bind λl=>(loop (σ:=g5) (ρ:=eC) (λ(b,g,_)=>cond (decide (b<aw c)) ((aQ c b).bind λh=>(loop (σ:=oS) (ρ:=g5) (λ(e,d,f,_)=>cond (decide (d<aw a)) ((aQ a d).bind λi=>rd f (ax (b+d)) λj=>wr f (ax (b+d)) (bL (bD IntKind.u64 (aH (aH (aH (aH h*aH i)+aH j)+e)) 4294967295)) λs=>(df IntKind.u64 (aH (aH (aH (aH h*aH i)+aH j)+e)) 32).bind λr=>some (.inl (r,a7 d,s,()))) (some (.inr (e,f,())))) (0,0,g,())).bind λ(k,m,_)=>wr m (ax (b+aw a)) (bL k) λt=>some (.inl (a7 b,t,()))) (some (.inr (g,())))) (0,List.replicate l (0:Int),())).bind λ(n,_)=>(fL (n,())).bind λ(q,_)=>some (q,()))
 |.inr p=>some p
def uv:ks->Option ep:=λ(a,b,_)=>(fL (a.2.1,())).bind λ(c,_)=>(fL (b.2.1,())).bind λ(aT,_)=>(xm (c,aT,())).bind λ(d,_)=>(iH ((!(a.1==b.1)),d,())).bind λ(e,_)=>some (e,())
def wS:rS->Option e7:=λ(b,c,_)=>(wZ (b,c,())).bind λ(a,aT,d,_)=>(cond (!d) ((uh ()).bind λ(e,_)=>some (e,())) ((uv (a.2.1,aT.2.1,())).bind λ(f,_)=>(r5 (f,ax (a.2.2.1+aT.2.2.1),())).bind λ(g,_)=>some (g,())))
def wT:e7->Option e7:=λ(b,_)=>(lS (b,())).bind λ(a,d,_)=>Option.bind (α:=rS) (cond d ((o5 (a.2.1,())).bind λ(aT,_)=>some ((a.1,(aT,a.2.2)),(false,((false,([],())),((0:Int),()))),())) (some (a,(false,((false,([],())),((0:Int),()))),()))) λ(c,_,_)=>some (c,())
def lR:lL->Option ep:=λ(a,b,_)=>(nN (a,b,())).bind λ(c,_,_)=>some (c,())
def wR:be->Option ew:=λ(a,_)=>some ((a !=a),())
def wP:kZ->Option be:=λ(a,b,_)=>(wR (a,())).bind λ(c,_)=>(wR (b,())).bind λ(aT,_)=>(cond c (cond aT (some (0,())) (some ((-1:Int),()))) (cond aT (some (1,())) (cond (decide (a<b)) (some ((-1:Int),())) (cond (decide (a>b)) (some (1,())) (some (0,()))))))
def qx:jX->Option be:=λ(b,c,_)=>(bif aw b !=aw c then(r4 (aw b,aw c,())).bind λ(f,_)=>some (f,()) else((loop (σ:=be) (ρ:=lJ) (λ(a,_)=>cond (decide (a>=0)) ((aQ b a).bind λh=>(aQ c a).bind λi=>cond (h !=i) ((aQ b a).bind λj=>(aQ c a).bind λk=>(wP (j,k,())).bind λ(g,_)=>some (.inr (.inr (g,())))) (some (.inl (ax (a-1),())))) (some (.inr (.inl ())))) (ax (aw b-1),())).bind λd=>match d with
 |.inl _=>(some (0,()))
 |.inr e=>some e))
def sd:jX->Option eC:=λ(b,d,_)=>(fj (aw b) (aw b)).bind λi=>(loop (σ:=oS) (ρ:=eC) (λ(e,a,c,_)=>cond (decide (a<aw b)) (Option.bind (α:=g5) ((aQ b a).bind λg=>Option.bind (α:=g5) (cond (decide (a<aw d)) ((aQ d a).bind λn=>some (aH (aH (aH g-e)-aH n),c,())) (some (aH (aH g-e),c,()))) λ(f,j,_)=>wr j a (bL (bD IntKind.u64 f 4294967295)) λp=>(df IntKind.u64 f 32).bind λo=>some (bD IntKind.u64 o 1,p,())) λ(h,k,_)=>some (.inl (h,a7 a,k,()))) (some (.inr (c,())))) (0,0,List.replicate i (0:Int),())).bind λ(l,_)=>(fL (l,())).bind λ(m,_)=>some (m,())
def qw:ks->Option ep:=λ(a,c,_)=>(fL (a.2.1,())).bind λ(b,_)=>(fL (c.2.1,())).bind λ(aT,_)=>(cond (a.1==c.1) ((qy (b,aT,())).bind λ(f,_)=>(iH (a.1,f,())).bind λ(g,_)=>some (g,())) ((qx (b,aT,())).bind λ(h,_)=>cond (decide (h>=0)) ((sd (b,aT,())).bind λ(i,_)=>(iH (a.1,i,())).bind λ(j,_)=>some (j,())) ((sd (aT,b,())).bind λ(d,_)=>(iH (c.1,d,())).bind λ(e,_)=>some (e,()))))
def wY:(lI×Unit)->Option e7:=λ(i,_)=>(loop (σ:=(Int×Int×bX×lI×Unit)) (ρ:=((Int×bX×lI×Unit)⊕e7)) (λ(c,e,k,b,_)=>cond (decide (e<aw i)) ((aQ i e).bind λw=>(lS (w,())).bind λ(a,s,_)=>cond (!s) ((uh ()).bind λ(t,_)=>some (.inr (.inr (t,())))) ((dd (b.length+([a]).length)).bind λ_=>some (.inl ((if a.2.2.1<c then a.2.2.1 else c),a7 e,k,(b++[a]),())))) (some (.inr (.inl (c,k,b,()))))) (0,0,(false,((false,([],())),((0:Int),()))),[],())).bind λn=>match n with
 |.inl (h,u,f,_)=>((loop (σ:=(Int×bX×lI×c6×Unit)) (ρ:=(bX×c6×Unit)) (λ(d,j,g,l,_)=>cond (decide (d<aw f)) (rd g d λm=>(lR (m.2.1,ax (m.2.2.1-h),())).bind λ(p,_)=>(qw (l,p,())).bind λ(q,_)=>some (.inl (a7 d,j,g,q,()))) (some (.inr (j,l,())))) (0,u,f,(false,([],())),())).bind λ(_,v,_)=>(r5 (v,h,())).bind λ(r,_)=>some (r,()))
 |.inr o=>some o
def o4:e7->Option be:=λ(a,_)=>(lS (a,())).bind λ(b,_,_)=>(lT (b.2.1,())).bind λ(aT,_)=>some (aT,())
def r6:e7->Option e7:=λ(a,_)=>(lS (a,())).bind λ(b,_,_)=>some (b,())
def xl:lK->Option lK:=λ(a,c,_)=>(fj (aw a) (aw a)).bind λh=>(loop (σ:=oS) (ρ:=g5) (λ(e,b,d,_)=>cond (decide (b>=0)) ((fN IntKind.u64 e 32).bind λf=>(aQ a b).bind λg=>(gY IntKind.u64 (dQ IntKind.u64 f (aH g)) (aH c)).bind λl=>wr d b (bL l) λn=>(gn (dQ IntKind.u64 f (aH g)) (aH c)).bind λm=>some (.inl (m,ax (b-1),n,()))) (some (.inr (e,d,())))) (0,ax (aw a-1),List.replicate h (0:Int),())).bind λ(k,i,_)=>(fL (i,())).bind λ(j,_)=>some (j,bL k,())
def xn:be->Option be:=λ(b,_)=>(se (b,())).bind λ(a,_)=>some (ax (32-a),())
def ux:((a8×Nat×Nat)×a8×Unit)->Option lK:=λ(b,a,_)=>(bG (b.2.2-b.2.1) (aw a)).bind λV=>(bt b.1 (b.2.1+V) λP=>some P).bind λcv=>(fN IntKind.u64 (aH cv) 32).bind λI=>(bG (b.2.2-b.2.1) (ax (aw a-1))).bind λad=>(bt b.1 (b.2.1+ad) λT=>some T).bind λK=>(aQ a (ax (aw a-1))).bind λa0=>(gY IntKind.u64 (dQ IntKind.u64 I (aH K)) (aH a0)).bind λa3=>(aQ a (ax (aw a-1))).bind λa4=>(gn (dQ IntKind.u64 I (aH K)) (aH a4)).bind λbl=>(loop (σ:=(cz×Int×Int×a8×Unit)) (ρ:=(cz×Int×a8×Unit)) (λ(g,h,r,m,_)=>Option.bind (α:=(cz×a8×Unit)⊕((cz×Int×Int×a8×Unit)⊕(cz×Int×a8×Unit))) (bif decide (h>4294967295)==false then(aQ a (ax (aw a-2))).bind λbs=>(fN IntKind.u64 r 32).bind λce=>(bG (g.2-g.1) (ax (aw a-2))).bind λU=>(bt m (g.1+U) λN=>some N).bind λci=>bif decide (aH (h*aH bs)>dQ IntKind.u64 ce (aH ci)) then
 some (.inl (g,m,())) else some (.inr (.inr (g,h,m,()))) else some (.inl (g,m,()))) λam=>match am with
 |.inl (C,D,_)=>((aQ a (ax (aw a-1))).bind λE=>cond (decide (aH (r+aH E)>4294967295)) (some (.inr (C,aH (h-1),D,()))) (some (.inl (C,aH (h-1),aH (r+aH E),D,()))))
 |.inr an=>some an) (b.2,a3,bl,b.1,())).bind λ(ap,i,av,_)=>(loop (σ:=(cz×Int×Int×Int×a8×Unit)) (ρ:=(cz×Int×Int×a8×Unit)) (λ(e,l,p,j,n,_)=>cond (decide (j<aw a)) ((aQ a j).bind λu=>(df IntKind.u64 (aH (aH (i*aH u)+l)) 32).bind λco=>(bG (e.2-e.1) j).bind λW=>(bt n (e.1+W) λO=>some O).bind λF=>(bG (e.2-e.1) j).bind λy=>(bt n (e.1+y) λ_=>some (n.set (e.1+y) (bL (bD IntKind.u64 (aH (aH (aH F-bD IntKind.u64 (aH (aH (i*aH u)+l)) 4294967295)-p)) 4294967295)))).bind λd1=>(df IntKind.u64 (aH (aH (aH F-bD IntKind.u64 (aH (aH (i*aH u)+l)) 4294967295)-p)) 32).bind λcs=>some (.inl (e,co,bD IntKind.u64 cs 1,a7 j,d1,()))) (some (.inr (e,l,p,n,())))) (ap,0,0,0,av,())).bind λ(c,x,w,s,_)=>(bG (c.2-c.1) (aw a)).bind λX=>(bt s (c.1+X) λQ=>some Q).bind λG=>
 (bG (c.2-c.1) (aw a)).bind λz=>(bt s (c.1+z) λ_=>some (s.set (c.1+z) (bL (bD IntKind.u64 (aH (aH (aH G-x)-w)) 4294967295)))).bind λv=>(df IntKind.u64 (aH (aH (aH G-x)-w)) 32).bind λdl=>(bif bD IntKind.u64 dl 1==0 then cond (Nat.beq c.1 b.2.1&&(Nat.beq c.2 b.2.2&&(Nat.beq v.length ((b.1).length)&&Nat.blt c.1 c.2))) (some (v,bL i,())) none else(loop (σ:=(cz×Int×Int×a8×Unit)) (ρ:=(cz×Int×a8×Unit)) (λ(f,q,k,o,_)=>cond (decide (k<aw a)) ((aQ a k).bind λH=>(bG (f.2-f.1) k).bind λY=>(bt o (f.1+Y) λR=>some R).bind λJ=>(bG (f.2-f.1) k).bind λA=>(bt o (f.1+A) λ_=>some (o.set (f.1+A) (bL (bD IntKind.u64 (aH (aH (aH J+aH H)+q)) 4294967295)))).bind λd2=>(df IntKind.u64 (aH (aH (aH J+aH H)+q)) 32).bind λds=>some (.inl (f,ds,a7 k,d2,()))) (some (.inr (f,q,o,())))) (c,0,0,v,())).bind λ(d,M,t,_)=>
 (bG (d.2-d.1) (aw a)).bind λZ=>(bt t (d.1+Z) λS=>some S).bind λd0=>(bG (d.2-d.1) (aw a)).bind λB=>(bt t (d.1+B) λ_=>some (t.set (d.1+B) (bL (d0+bL M)))).bind λL=>cond (Nat.beq d.1 b.2.1&&(Nat.beq d.2 b.2.2&&(Nat.beq L.length ((b.1).length)&&Nat.blt d.1 d.2))) (some (L,bL (aH (i-1)),())) none)
def uy:jX->Option jX:=λ(a,b,_)=>(qx (a,b,())).bind λ(t,_)=>(bif decide (t<0) then(qA (a,())).bind λ(u,_)=>some ([],u,()) else bif aw b==1 then(aQ b 0).bind λC=>(xl (a,C,())).bind λ(v,w,_)=>(fL ([w],())).bind λ(x,_)=>some (v,x,()) else(aQ b (ax (aw b-1))).bind λD=>(xn (D,())).bind λ(h,_)=>(qz (b,h,())).bind λ(e,_)=>(fj (a7 (aw a)) (a7 (aw a))).bind λc=>(qz (a,h,())).bind λ(i,_)=>(fj (ax (aw (iF (List.replicate c (0:Int)) i 0 (List.replicate c (0:Int)).length)-aw e)) (ax (aw (iF (List.replicate c (0:Int)) i 0 (List.replicate c (0:Int)).length)-aw e))).bind λn=>(loop (σ:=(Int×a8×a8×Unit)) (ρ:=jX) (λ(d,p,g,_)=>bif decide (d>=0) then((gW d).bind λj=>(gW (a7 (ax (d+aw e)))).bind λk=>(g9 j k g.length).bind λ_=>(y2 g.length).map λ_=>(j,k)).bind λf=>
 cond (Nat.blt f.1 f.2) ((ux ((g,f.1,f.2),e,())).bind λ(r,y,_)=>wr p d y λE=>some (.inl (ax (d-1),E,r,()))) none else some (.inr (p,g,()))) (ax (aw (List.replicate n (0:Int))-1),List.replicate n (0:Int),iF (List.replicate c (0:Int)) i 0 (List.replicate c (0:Int)).length,())).bind λ(s,q,_)=>((some (0)).bind λl=>(gW (aw e)).bind λm=>(g9 l m q.length).map λ_=>(l,m)).bind λo=>(fL (((q.take o.2).drop o.1),())).bind λ(z,_)=>(sb (z,h,())).bind λ(A,_,_)=>(fL (s,())).bind λ(B,_)=>some (B,A,()))
def xk:eC->Option eC:=λ(b,_)=>(cond (aw b==0) (some ([],())) ((sc (b,())).bind λ(e,_)=>(gY IntKind.i64 (a7 e) 2).bind λh=>(qz ([1],h,())).bind λ(aT,_)=>(loop (σ:=eC) (ρ:=eC) (λ(a,_)=>(uy (b,a,())).bind λ(f,_,_)=>(qy (a,f,())).bind λ(g,_)=>(sb (g,1,())).bind λ(c,_,_)=>(qx (c,a,())).bind λ(d,_)=>cond (decide (d>=0)) (some (.inr (a,()))) (some (.inl (c,())))) (aT,())).bind some))
def xi:ep->Option lL:=λ(a,_)=>(lT (a,())).bind λ(b,_)=>(cond (decide (b<0)) (some ((false,(([]:a8),())),11,())) ((fL (a.2.1,())).bind λ(c,_)=>(xk (c,())).bind λ(aT,_)=>(iH (false,aT,())).bind λ(d,_)=>some (d,0,())))
def uu:ks->Option be:=λ(b,c,_)=>(lT (b,())).bind λ(a,_)=>(lT (c,())).bind λ(aT,_)=>(cond (decide (a<aT)) (some ((-1:Int),())) (cond (decide (a>aT)) (some (1,())) ((fL (b.2.1,())).bind λ(d,_)=>(fL (c.2.1,())).bind λ(e,_)=>(qx (d,e,())).bind λ(f,_)=>some (ax (a*f),()))))
def wX:(bX×Int×Unit)->Option (oR×Unit):=λ(c,a,_)=>(nM (c.2.1,())).bind λ(b,_)=>Option.bind (α:=(Int×oR×Unit)) ((gn (ax (c.2.2.1-(if(ax (ax (2*ax (a+3))-b))>0 then ax (ax (2*ax (a+3))-b) else 0))) 2).bind λj=>cond (j !=0) (some (a7 (if(ax (ax (2*ax (a+3))-b))>0 then ax (ax (2*ax (a+3))-b) else 0),(false,((false,([],())),((0:Int),(false,())))),())) (some ((if(ax (ax (2*ax (a+3))-b))>0 then ax (ax (2*ax (a+3))-b) else 0),(false,((false,([],())),((0:Int),(false,())))),()))) λ(e,_,_)=>(lR (c.2.1,e,())).bind λ(f,_)=>(xi (f,())).bind λ(d,_,_)=>(gY IntKind.i64 (ax (c.2.2.1-e)) 2).bind λi=>(uv (d,d,())).bind λ(g,_)=>(uu (g,f,())).bind λ(h,_)=>some ((false,(d,(i,((h !=0),())))),())
def wV:(oR×Unit)->Option be:=λ(a,_)=>(nM (a.2.1,())).bind λ(b,_)=>some (ax (ax (a.2.2.1+b)-1),())
def xj:ks->Option ep:=λ(b,a,_)=>(qw (b,((!a.1),a.2),())).bind λ(c,_)=>some (c,())
def ug:(oR×Int×Unit)->Option (c6×Int×Bool×Unit):=λ(a,b,_)=>(nM (a.2.1,())).bind λ(h,_)=>(cond (decide (b>h)) (some ((false,(([]:a8),())),(-1:Int),false,())) ((ui (a.2.1,b,())).bind λ(aT,_)=>(lR (aT,b,())).bind λ(i,_)=>(xj (a.2.1,i,())).bind λ(c,_)=>(sa (1,())).bind λ(j,_)=>(lR (j,ax (b-1),())).bind λ(k,_)=>(uu (c,k,())).bind λ(d,_)=>Option.bind (α:=(Int×c6×c6×Unit)) (cond ((d==0)==true) (cond a.2.2.2.1 (some (1,aT,c,())) (some (d,aT,c,()))) (some (d,aT,c,()))) λ(e,f,l,_)=>(lT (l,())).bind λ(g,_)=>cond ((g==0)==true) (some (f,e,(!a.2.2.2.1),())) (some (f,e,false,()))))
def wW:(oR×Int×Int×Unit)->Option ep:=λ(c,e,d,_)=>Option.bind (α:=(Int×Bool×c6×c6×Unit)) (cond (decide (e<=c.2.2.1)) ((lR (c.2.1,ax (c.2.2.1-e),())).bind λ(aT,_)=>some ((-1:Int),true,(false,([],())),aT,())) ((ug (c,ax (e-c.2.2.1),())).bind λ(s,t,u,_)=>some (t,u,(false,([],())),s,()))) λ(f,l,b,a,_)=>Option.bind (α:=(Bool×c6×c6×Unit)) (cond l (some (false,b,a,())) (cond (d==1) (some (c.1,b,a,())) (cond (d==2) (some ((!c.1),b,a,())) (cond (d==3) (some (false,b,a,())) (cond (decide (f>0)==false) (cond ((f==0)==true) ((lT (a,())).bind λ(n,_)=>cond ((n !=0)==true) ((uw (a,())).bind λ(o,_)=>some ((o==0),b,a,())) (some (false,b,a,()))) (some (false,b,a,()))) (some (true,b,a,()))))))) λ(k,i,g,_)=>Option.bind (α:=ks) (cond k ((sa (1,())).bind λ(p,_)=>(qw (g,p,())).bind λ(q,_)=>some (i,q,())) (some (i,g,()))) λ(j,h,_)=>Option.bind (α:=ks) (cond c.1 ((o5 (h,())).bind λ(r,_)=>some (j,r,())) (some (j,h,()))) λ(_,m,_)=>some (m,())
def r9:ep->Option ep:=λ(a,_)=>(qA (a.2.1,())).bind λ(b,_)=>(iH (false,b,())).bind λ(c,_)=>some (c,())
def xg:ep->Option cr:=λ(c,_)=>(fL (c.2.1,())).bind λ(d,_)=>(bif decide (aw d>2) then some (0,false,()) else((loop (σ:=kZ) (ρ:=be) (λ(e,b,_)=>cond (decide (b<aw d)) ((aQ d b).bind λj=>(fN IntKind.u64 (aH j) (ax (32*b))).bind λk=>some (.inl (dQ IntKind.u64 e k,a7 b,()))) (some (.inr (e,())))) (0,0,())).bind λ(a,_)=>Option.bind (α:=Unit⊕cr) (Option.bind (α:=ew) (cond (c.1==true) (cond (decide (a>0)==true) (some (decide (a<=9223372036854775808),())) (some (false,()))) (some (false,()))) λ(h,_)=>cond h (some (.inr (ax (ax (0-ax (aH (a-1)))-1),true,()))) (Option.bind (α:=ew) (cond (decide (a<9223372036854775808)==true) (cond ((!c.1)==false) (some ((a==0),())) (some (true,()))) (some (false,()))) λ(i,_)=>cond i (some (.inr (ax a,true,()))) (some (.inl ())))) λf=>match f with
 |.inl _=>(some (0,false,()))
 |.inr g=>some g))
def qv:cr->Option be:=λ(a,b,_)=>(cond b (some (dQ IntKind.u64 a 9223372036854775808,())) (some (a,())))
def w8:cu->Option be:=λ(a,b,_)=>Option.bind (α:=Unit⊕be) (Option.bind (α:=ew) (cond ((b==3)==false) (cond ((b==1)==true) (cond ((!a)==false) (cond ((b==2)==true) (some (a,())) (some (false,()))) (some (true,()))) (cond ((b==2)==true) (some (a,())) (some (false,())))) (some (true,()))) λ(f,_)=>cond f ((qv (9218868437227405311,a,())).bind λ(aT,_)=>some (.inr (aT,()))) (some (.inl ()))) λc=>match c with
 |.inl _=>((qv (9218868437227405312,a,())).bind λ(e,_)=>some (e,()))
 |.inr d=>some d
def uj:(oR×Int×Unit)->Option be:=λ(b,d,_)=>(wV (b,())).bind λ(a,_)=>(wW (b,(if(-1074:Int)>ax (a-52) then(-1074:Int) else ax (a-52)),d,())).bind λ(aT,_)=>(r9 (aT,())).bind λ(j,_)=>(xg (j,())).bind λ(f,_,_)=>Option.bind (α:=kZ) (cond (aH f==9007199254740992) (some (a7 (if(-1074:Int)>ax (a-52) then(-1074:Int) else ax (a-52)),4503599627370496,())) (some ((if(-1074:Int)>ax (a-52) then(-1074:Int) else ax (a-52)),aH f,()))) λ(e,c,_)=>(cond (decide (c<4503599627370496)) ((qv (c,b.1,())).bind λ(g,_)=>some (g,())) (cond (decide (ax (e+1075)>=2047)) ((w8 (b.1,d,())).bind λ(h,_)=>some (h,())) ((fN IntKind.u64 (aH (ax (e+1075))) 52).bind λk=>(qv (dQ IntKind.u64 k (aH (c-4503599627370496)),b.1,())).bind λ(i,_)=>some (i,()))))
def w6:(bX×Int×Unit)->Option be:=λ(c,e,_)=>(r6 (c,())).bind λ(a,_)=>Option.bind (α:=e7⊕be) (Option.bind (α:=(Bool×bX×Unit)) (cond (a.1==false) ((o4 (a,())).bind λ(aT,_)=>some (decide (aT<0),a,())) (some (true,a,()))) λ(k,b,_)=>cond k (some (.inr (9221120237041090560,()))) ((o4 (b,())).bind λ(i,_)=>cond (i==0) (some (.inr (0,()))) (some (.inl (b,()))))) λf=>match f with
 |.inl (d,_)=>((wX (d,56,())).bind λ(j,_)=>(uj (j,e,())).bind λ(h,_)=>some (h,()))
 |.inr g=>some g
def w4:be->Option be:=λ(c,_)=>(r7 (c,())).bind λ(a,b,_)=>Option.bind (α:=ew) (cond ((a==2047)==true) (some ((b !=0),())) (some (false,()))) λ(d,_)=>(cond d (some (3,())) (cond (a==2047) (some (2,())) (cond ((a==0)==true) (cond (b==0) (some (0,())) (some (1,()))) (some (1,())))))
def xf:ks->Option (c6×c6×Int×Unit):=λ(a,d,_)=>(fL (d.2.1,())).bind λ(b,_)=>(cond (aw b==0) (some ((false,(([]:a8),())),(false,(([]:a8),())),8,())) ((fL (a.2.1,())).bind λ(aT,_)=>(uy (aT,b,())).bind λ(f,c,_)=>Option.bind (α:=(a8×a8×c6×c6×Unit)) (Option.bind (α:=(Bool×c6×c6×Unit)) (cond (a.1==true) (some (decide (aw c>0),(false,([],())),(false,([],())),())) (some (false,(false,([],())),(false,([],())),()))) λ(n,e,g,_)=>cond n ((qy (f,[1],())).bind λ(j,_)=>(sd (b,c,())).bind λ(k,_)=>some (j,k,e,g,())) (some (f,c,e,g,()))) λ(h,i,_,_,_)=>(iH ((!(a.1==d.1)),h,())).bind λ(l,_)=>(iH (false,i,())).bind λ(m,_)=>some (l,m,0,())))
def wU:(bX×bX×Int×Unit)->Option (oR×Unit):=λ(a,b,c,_)=>(nM (b.2.1,())).bind λ(aT,_)=>(nM (a.2.1,())).bind λ(d,_)=>(r9 (a.2.1,())).bind λ(g,_)=>(lR (g,(if(ax (ax (ax (c+3)+aT)-d))>0 then ax (ax (ax (c+3)+aT)-d) else 0),())).bind λ(h,_)=>(r9 (b.2.1,())).bind λ(i,_)=>(xf (h,i,())).bind λ(j,e,_,_)=>(lT (e,())).bind λ(f,_)=>some (((!(a.2.1.1==b.2.1.1)),(j,(ax (ax (a.2.2.1-(if(ax (ax (ax (c+3)+aT)-d))>0 then ax (ax (ax (c+3)+aT)-d) else 0))-b.2.2.1),((f !=0),())))),())
def w5:(bX×bX×Int×Unit)->Option be:=λ(c,f,h,_)=>(r6 (c,())).bind λ(aT,_)=>(r6 (f,())).bind λ(a,_)=>Option.bind (α:=rS⊕be) (Option.bind (α:=(Bool×bX×bX×Unit)) (cond (aT.1==false) (cond (a.1==false) ((o4 (a,())).bind λ(n,_)=>some ((n==0),aT,a,())) (some (true,aT,a,()))) (some (true,aT,a,()))) λ(o,b,g,_)=>cond o (some (.inr (9221120237041090560,()))) ((o4 (b,())).bind λ(k,_)=>cond (k==0) (some (.inr (0,()))) (some (.inl (b,g,()))))) λi=>match i with
 |.inl (d,e,_)=>((wU (d,e,56,())).bind λ(l,_)=>(uj (l,h,())).bind λ(m,_)=>some (m,()))
 |.inr j=>some j
def sm:be->Option ew:=λ(a,_)=>(df IntKind.u64 a 52).bind λb=>some ((bD IntKind.u64 b 2047 !=2047),())
def xT:be->Option ew:=λ(a,_)=>some ((bD IntKind.u64 a 9223372036854775808 !=0),())
def uN:be->Option e7:=λ(a,_)=>(sm (a,())).bind λ(f,_)=>(cond (!f) ((qC ()).bind λ(g,_)=>some (g,())) ((df IntKind.u64 a 52).bind λc=>Option.bind (α:=(Int×Int×bX×Unit)) (cond (decide (ax (bD IntKind.u64 c 2047)>0)) (some (dQ IntKind.u64 (bD IntKind.u64 a 4503599627370495) 4503599627370496,ax (ax (bD IntKind.u64 c 2047)-1075),(false,((false,([],())),((0:Int),()))),())) (some (bD IntKind.u64 a 4503599627370495,(-1074:Int),(false,((false,([],())),((0:Int),()))),()))) λ(b,d,_,_)=>(xT (a,())).bind λ(h,_)=>(df IntKind.u64 b 32).bind λi=>(mT ((h,([bL b,bL i],())),d,())).bind λ(e,_)=>some (e,())))
def xO:e7->Option e7:=λ(b,_)=>(qD (b,())).bind λ(a,_)=>(cond a.1 (some (a,())) ((sj (a.2.1,())).bind λ(c,_)=>(mT (c,a.2.2.1,())).bind λ(aT,_)=>some (aT,())))
def xR:(lI×Unit)->Option e7:=λ(h,_)=>(loop (σ:=(Int×Int×bX×c6×Unit)) (ρ:=((Int×bX×c6×Unit)⊕e7)) (λ(b,e,c,d,_)=>bif decide (e<aw h) then(Option.bind (α:=(Int×bX×c6×Unit)⊕((Int×Int×bX×c6×Unit)⊕((Int×bX×c6×Unit)⊕e7))) ((aQ h e).bind λv=>(qD (v,())).bind λ(a,_)=>cond a.1 ((qC ()).bind λ(q,_)=>some (.inr (.inr (.inr (q,()))))) ((nO (a.2.1,())).bind λ(r,_)=>cond (r==0) (some (.inl (b,c,d,()))) ((nO (d,())).bind λ(k,_)=>cond (k==0) (some (.inl (a.2.2.1,c,a.2.1,()))) (cond (decide (a.2.2.1>=b)) ((lU (a.2.1,ax (a.2.2.1-b),())).bind λ(l,_)=>(qB (d,l,())).bind λ(m,_)=>some (.inl (b,c,m,()))) ((lU (d,ax (b-a.2.2.1),())).bind λ(n,_)=>(qB (n,a.2.1,())).bind λ(o,_)=>some (.inl (a.2.2.1,c,o,()))))))) λf=>match f with
 |.inl (i,s,t,_)=>(some (.inl (i,a7 e,s,t,())))
 |.inr g=>some g) else some (.inr (.inl (b,c,d,())))) (0,0,(false,((false,([],())),((0:Int),()))),(false,(([]:a8),())),())).bind λf=>match f with
 |.inl (j,_,u,_)=>((mT (u,j,())).bind λ(p,_)=>some (p,()))
 |.inr g=>some g
def uM:be->Option be:=λ(a,_)=>(df IntKind.u64 a 52).bind λb=>Option.bind (α:=ew) (cond ((bD IntKind.u64 b 2047==2047)==true) (some ((bD IntKind.u64 a 4503599627370495 !=0),())) (some (false,()))) λ(c,_)=>(cond c (some (3,())) (cond (bD IntKind.u64 b 2047==2047) (some (2,())) (cond ((bD IntKind.u64 b 2047==0)==true) (cond (bD IntKind.u64 a 4503599627370495==0) (some (0,())) (some (1,()))) (some (1,())))))
def xU:be->Option ew:=λ(a,_)=>(uM (a,())).bind λ(b,_)=>some ((b==3),())
def xQ:(bX×Int×Unit)->Option e7:=λ(i,b,_)=>(qD (i,())).bind λ(a,_)=>Option.bind (α:=rS⊕e7) (Option.bind (α:=(Bool×bX×bX×Unit)) (cond (a.1==false) ((nO (a.2.1,())).bind λ(aT,_)=>some ((aT==0),a,(false,((false,([],())),((0:Int),()))),())) (some (true,a,(false,((false,([],())),((0:Int),()))),()))) λ(o,f,p,_)=>cond o (some (.inr (f,()))) (some (.inl (f,p,())))) λc=>match c with
 |.inl (g,h,_)=>(Option.bind (α:=rS⊕e7) (Option.bind (α:=(Bool×bX×bX×Unit)) (cond (decide (b>262144)==false) (some (decide (b<(-262144:Int)),g,h,())) (some (true,g,h,()))) λ(m,j,n,_)=>cond m ((qC ()).bind λ(k,_)=>some (.inr (k,()))) (some (.inl (j,n,())))) λc=>match c with
 |.inl (e,_,_)=>((mT (e.2.1,ax (e.2.2.1+b),())).bind λ(l,_)=>some (l,()))
 |.inr d=>some d)
 |.inr d=>some d
def lV:cn->Option be:=λ(a,b,c,_)=>(xU (a,())).bind λ(aT,_)=>(cond aT (some (9221120237041090560,())) ((uM (a,())).bind λ(d,_)=>cond (d !=1) (some (a,())) ((uN (a,())).bind λ(e,_)=>(xQ (e,(if(if b<5000 then b else 5000)>(-5000:Int) then if b<5000 then b else 5000 else(-5000:Int)),())).bind λ(f,_)=>(sn (f,c,())).bind λ(g,_)=>some (g,()))))
def xx:cn->Option ew:=λ(a,c,b,_)=>(cond (decide (a>=c)==true) (some (decide (a<=b),())) (some (false,())))
def xC:eC->Option ew:=λ(b,_)=>(loop (σ:=be) (ρ:=oQ) (λ(a,_)=>cond (decide (a>0)) ((aQ b a).bind λf=>(aQ b (ax (a-1))).bind λg=>(qs (f,g,())).bind λ(e,_)=>cond e (some (.inr (.inr (false,())))) (some (.inl (ax (a-1),())))) (some (.inr (.inl ())))) (ax (aw b-1),())).bind λc=>match c with
 |.inl _=>(some (true,()))
 |.inr d=>some d
def xu:mK->Option ew:=λ(a,_)=>Option.bind (α:=Unit⊕ew) (cond ((aw a.2.2.1 !=a7 a.2.1)==false) ((aQ a.2.2.1 0).bind λm=>cond ((m !=0)==false) ((xC (a.2.2.1,())).bind λ(l,_)=>cond ((!l)==false) ((aQ a.2.2.1 a.2.1).bind λn=>cond ((n !=aw a.2.2.2.1)==false) (cond (aw a.2.2.2.1 !=aw a.2.2.2.2.1) (some (.inr (false,()))) (some (.inl ()))) (some (.inr (false,())))) (some (.inr (false,())))) (some (.inr (false,())))) (some (.inr (false,())))) λb=>match b with
 |.inl _=>((loop (σ:=be) (ρ:=oQ) (λ(e,_)=>bif decide (e<a.2.1) then((aQ a.2.2.1 e).bind λo=>(aQ a.2.2.1 (a7 e)).bind λp=>((gW o).bind λh=>(gW p).bind λi=>(g9 h i (a.2.2.2.1).length).map λ_=>(h,i)).bind λd=>(loop (σ:=kZ) (ρ:=(Unit⊕(be⊕oQ))) (λ(j,f,_)=>bif decide (f<aw (((a.2.2.2.1).take d.2).drop d.1)) then(Option.bind (α:=be⊕(kZ⊕(Unit⊕(be⊕oQ)))) ((aQ (((a.2.2.2.1).take d.2).drop d.1) f).bind λg=>Option.bind (α:=Unit⊕(be⊕(kZ⊕(Unit⊕(be⊕oQ))))) (cond (decide (g<=j)==false) (cond (decide (g>=a.1)) (some (.inr (.inr (.inr (.inr (.inr (.inr (false,())))))))) (some (.inl ()))) (some (.inr (.inr (.inr (.inr (.inr (.inr (false,()))))))))) λb=>match b with
 |.inl _=>(some (.inl (g,())))
 |.inr c=>some c) λb=>match b with
 |.inl (k,_)=>(some (.inl (k,a7 f,())))
 |.inr c=>some c) else some (.inr (.inl ()))) ((-1:Int),0,())).bind λb=>match b with
 |.inl _=>(some (.inl (a7 e,())))
 |.inr c=>some c) else some (.inr (.inl ()))) (0,())).bind λb=>match b with
 |.inl _=>(some (true,()))
 |.inr c=>some c)
 |.inr c=>some c
def Am:be->Option ew:=λ(a,_)=>(qt (a,())).bind λ(b,_)=>some ((!b),())
def Ao:(a8×Unit×Unit)->Option be:=λ(b,_,_)=>(loop (σ:=be) (ρ:=lJ) (λ(a,_)=>cond (decide (a<aw b)) ((aQ b a).bind λf=>(Am (f,())).bind λ(e,_)=>cond e (some (.inr (.inr (a,())))) (some (.inl (a7 a,())))) (some (.inr (.inl ())))) (0,())).bind λc=>match c with
 |.inl _=>(some ((-1:Int),()))
 |.inr d=>some d
def xA:(a8×Unit×Unit)->Option ew:=λ(b,_,_)=>(Ao (b,(),())).bind λ(a,_)=>some (decide (a>=0),())
def o6:mK->Option be:=λ(a,_)=>Option.bind (α:=ew) ((xx (a.1,0,200,())).bind λ(b,_)=>cond ((!b)==false) ((xx (a.2.1,0,200,())).bind λ(c,_)=>cond ((!c)==false) (some (decide (aw a.2.2.2.1>10000),())) (some (true,()))) (some (true,()))) λ(f,_)=>(cond f (some (6,())) ((xu (a,())).bind λ(d,_)=>cond (!d) (some (1,())) ((xA (a.2.2.2.2.1,(),())).bind λ(e,_)=>cond e (some (4,())) (some (0,())))))
def x0:lK->Option (a8×Bool×Unit):=λ(h,a,_)=>(bif aw h !=a then some ([],false,()) else((fj a a).bind λi=>(fj a a).bind λj=>(loop (σ:=(Int×a8×nG×Unit)) (ρ:=(eC⊕(a8×Bool×Unit))) (λ(f,e,g,_)=>bif decide (f<aw h) then(Option.bind (α:=(a8×nG×Unit)⊕((Int×a8×nG×Unit)⊕(eC⊕(a8×Bool×Unit)))) ((aQ h f).bind λd=>Option.bind (α:=(a8×nG×Unit)⊕((a8×nG×Unit)⊕((Int×a8×nG×Unit)⊕(eC⊕(a8×Bool×Unit))))) (Option.bind (α:=(Bool×a8×nG×Unit)) (cond (decide (d<0)==false) (cond (decide (d>=a)==false) (rd g d λs=>some (s,e,g,())) (some (true,e,g,()))) (some (true,e,g,()))) λ(o,k,p,_)=>cond o (some (.inr (.inr (.inr (.inr ([],false,())))))) (some (.inl (k,p,())))) λb=>match b with
 |.inl (l,q,_)=>(wr l d f λt=>wr q d true λu=>some (.inl (t,u,())))
 |.inr c=>some c) λb=>match b with
 |.inl (m,r,_)=>(some (.inl (a7 f,m,r,())))
 |.inr c=>some c) else some (.inr (.inl (e,())))) (0,List.replicate i (0:Int),List.replicate j false,())).bind λb=>match b with
 |.inl (n,_)=>(some (n,true,()))
 |.inr c=>some c))
def uz:mK->Option i4:=λ(b,_)=>(loop (σ:=qi) (ρ:=i4) (λ(a,e,_)=>cond (decide (a<b.2.1)) ((aQ b.2.2.1 a).bind λj=>(loop (σ:=qi) (ρ:=i4) (λ(c,d,_)=>(aQ b.2.2.1 (a7 a)).bind λk=>cond (decide (c<k)) ((aQ b.2.2.2.1 c).bind λf=>(aQ b.2.2.2.2.1 c).bind λg=>(dd (d.length+([(f,(a,(g,())))]).length)).bind λ_=>some (.inl (a7 c,(d++[(f,(a,(g,())))]),()))) (some (.inr (d,())))) (j,e,())).bind λ(h,_)=>some (.inl (a7 a,h,()))) (some (.inr (e,())))) (0,[],())).bind λ(i,_)=>some (i,())
def An:i4->Option i4:=λ(a,_)=>lf a.length (some ([],())) ((dd (([]:jY).length+a.length)).bind λ_=>some (([]++a),()))
def xw:((Int×(Int×be))×(Int×(Int×be))×Unit)->Option be:=λ(a,b,_)=>(r4 (a.2.1,b.2.1,())).bind λ(c,_)=>(r4 (a.1,b.1,())).bind λ(aT,_)=>(wQ ([c,aT],())).bind λ(d,_)=>some (d,())
def uC:(jY×Int×Int×Unit×Unit)->Option i4:=λ(h,e,g,_,_)=>(loop (σ:=qi) (ρ:=i4) (λ(d,f,_)=>bif decide (d<g) then(loop (σ:=qi) (ρ:=i4) (λ(a,b,_)=>Option.bind (α:=i4⊕(qi⊕i4)) (cond (decide (a>e)==true) (rd b a λn=>rd b (ax (a-1)) λo=>(xw (n,o,())).bind λ(m,_)=>cond (decide (m<0)) (some (.inl (b,()))) (some (.inr (.inr (b,()))))) (some (.inr (.inr (b,()))))) λk=>match k with
 |.inl (c,_)=>(rd c (ax (a-1)) λp=>rd c a λq=>wr c a p λr=>wr r (ax (a-1)) q λs=>some (.inl (ax (a-1),s,())))
 |.inr l=>some l) (d,f,())).bind λ(i,_)=>some (.inl (a7 d,i,())) else some (.inr (f,()))) (a7 e,h,())).bind λ(j,_)=>some (j,())
def As:(jY×Int×Unit×Unit)->Option i4:=λ(g,b,_,_)=>(loop (σ:=Dq) (ρ:=qi) (λ(c,a,d,_)=>cond (decide (a<=b)) ((uC (d,c,a,(),())).bind λ(l,_)=>some (.inl (a,ax (a+20),l,()))) (some (.inr (c,d,())))) (0,20,g,())).bind λ(e,j,_)=>(uC (j,e,b,(),())).bind λ(k,_)=>(loop (σ:=qi) (ρ:=i4) (λ(f,h,_)=>cond (decide (f<b)) none (some (.inr (h,())))) (20,k,())).bind λ(i,_)=>some (i,())
def Ar:(jY×Unit×Unit)->Option i4:=λ(a,_,_)=>(As (a,aw a,(),())).bind λ(b,_)=>some (b,())
def xv:i4->Option i4:=λ(a,_)=>(An (a,())).bind λ(c,_)=>(Ar (c,(),())).bind λ(b,_)=>some (b,())
def xq:Dq->Option mK:=λ(s,e,o,_)=>(fj (a7 e) (a7 e)).bind λr=>(xv (o,())).bind λ(i,_)=>(loop (σ:=(Int×bQ×bQ×jY×Unit)) (ρ:=(bQ×bQ×Unit)) (λ(f,k,a,l,_)=>bif decide (f<aw i) then rd l f λb=>(dd ((a.2.2.2.1).length+([b.1]).length)).bind λ_=>(dd ((a.2.2.2.2.1).length+([b.2.2.1]).length)).bind λ_=>(bG (((a.1,(a.2.1,(a.2.2.1,((a.2.2.2.1++[b.1]),a.2.2.2.2)))).1,((a.1,(a.2.1,(a.2.2.1,((a.2.2.2.1++[b.1]),a.2.2.2.2)))).2.1,((a.1,(a.2.1,(a.2.2.1,((a.2.2.2.1++[b.1]),a.2.2.2.2)))).2.2.1,((a.1,(a.2.1,(a.2.2.1,((a.2.2.2.1++[b.1]),a.2.2.2.2)))).2.2.2.1,(((a.1,(a.2.1,(a.2.2.1,((a.2.2.2.1++[b.1]),a.2.2.2.2)))).2.2.2.2.1++[b.2.2.1]),(a.1,(a.2.1,(a.2.2.1,((a.2.2.2.1++[b.1]),a.2.2.2.2)))).2.2.2.2.2))))).2.2.1).length (a7 b.2.1)).bind λn=>(bt ((a.1,(a.2.1,(a.2.2.1,((a.2.2.2.1++[b.1]),a.2.2.2.2)))).1,((a.1,(a.2.1,(a.2.2.1,((a.2.2.2.1++[b.1]),a.2.2.2.2)))).2.1,((a.1,(a.2.1,(a.2.2.1,((a.2.2.2.1++[b.1]),a.2.2.2.2)))).2.2.1,((a.1,(a.2.1,(a.2.2.1,((a.2.2.2.1++[b.1]),a.2.2.2.2)))).2.2.2.1,(((a.1,(a.2.1,(a.2.2.1,((a.2.2.2.1++[b.1]),a.2.2.2.2)))).2.2.2.2.1++[b.2.2.1]),(a.1,(a.2.1,(a.2.2.1,((a.2.2.2.1++[b.1]),a.2.2.2.2)))).2.2.2.2.2))))).2.2.1 n λm=>some m).bind λu=>
 (bG (((a.1,(a.2.1,(a.2.2.1,((a.2.2.2.1++[b.1]),a.2.2.2.2)))).1,((a.1,(a.2.1,(a.2.2.1,((a.2.2.2.1++[b.1]),a.2.2.2.2)))).2.1,((a.1,(a.2.1,(a.2.2.1,((a.2.2.2.1++[b.1]),a.2.2.2.2)))).2.2.1,((a.1,(a.2.1,(a.2.2.1,((a.2.2.2.1++[b.1]),a.2.2.2.2)))).2.2.2.1,(((a.1,(a.2.1,(a.2.2.1,((a.2.2.2.1++[b.1]),a.2.2.2.2)))).2.2.2.2.1++[b.2.2.1]),(a.1,(a.2.1,(a.2.2.1,((a.2.2.2.1++[b.1]),a.2.2.2.2)))).2.2.2.2.2))))).2.2.1).length (a7 b.2.1)).bind λg=>((((bt ((a.1,(a.2.1,(a.2.2.1,((a.2.2.2.1++[b.1]),a.2.2.2.2)))).1,((a.1,(a.2.1,(a.2.2.1,((a.2.2.2.1++[b.1]),a.2.2.2.2)))).2.1,((a.1,(a.2.1,(a.2.2.1,((a.2.2.2.1++[b.1]),a.2.2.2.2)))).2.2.1,((a.1,(a.2.1,(a.2.2.1,((a.2.2.2.1++[b.1]),a.2.2.2.2)))).2.2.2.1,(((a.1,(a.2.1,(a.2.2.1,((a.2.2.2.1++[b.1]),a.2.2.2.2)))).2.2.2.2.1++[b.2.2.1]),(a.1,(a.2.1,(a.2.2.1,((a.2.2.2.1++[b.1]),a.2.2.2.2)))).2.2.2.2.2))))).2.2.1 g λ_=>some ((((a.1,(a.2.1,(a.2.2.1,((a.2.2.2.1++[b.1]),a.2.2.2.2)))).1,((a.1,(a.2.1,(a.2.2.1,((a.2.2.2.1++[b.1]),a.2.2.2.2)))).2.1,((a.1,(a.2.1,(a.2.2.1,((a.2.2.2.1++[b.1]),a.2.2.2.2)))).2.2.1,((a.1,(a.2.1,(a.2.2.1,((a.2.2.2.1++[b.1]),a.2.2.2.2)))).2.2.2.1,(((a.1,(a.2.1,(a.2.2.1,((a.2.2.2.1++[b.1]),a.2.2.2.2)))).2.2.2.2.1++[b.2.2.1]),(a.1,(a.2.1,(a.2.2.1,((a.2.2.2.1++[b.1]),a.2.2.2.2)))).2.2.2.2.2))))).2.2.1).set g (a7 u))).map λx=>(x,((a.1,(a.2.1,(a.2.2.1,((a.2.2.2.1++[b.1]),a.2.2.2.2)))).1,((a.1,(a.2.1,(a.2.2.1,((a.2.2.2.1++[b.1]),a.2.2.2.2)))).2.1,((a.1,(a.2.1,(a.2.2.1,((a.2.2.2.1++[b.1]),a.2.2.2.2)))).2.2.1,((a.1,(a.2.1,(a.2.2.1,((a.2.2.2.1++[b.1]),a.2.2.2.2)))).2.2.2.1,(((a.1,(a.2.1,(a.2.2.1,((a.2.2.2.1++[b.1]),a.2.2.2.2)))).2.2.2.2.1++[b.2.2.1]),(a.1,(a.2.1,(a.2.2.1,((a.2.2.2.1++[b.1]),a.2.2.2.2)))).2.2.2.2.2))))).2.2.2)).map λy=>(((a.1,(a.2.1,(a.2.2.1,((a.2.2.2.1++[b.1]),a.2.2.2.2)))).1,((a.1,(a.2.1,(a.2.2.1,((a.2.2.2.1++[b.1]),a.2.2.2.2)))).2.1,((a.1,(a.2.1,(a.2.2.1,((a.2.2.2.1++[b.1]),a.2.2.2.2)))).2.2.1,((a.1,(a.2.1,(a.2.2.1,((a.2.2.2.1++[b.1]),a.2.2.2.2)))).2.2.2.1,(((a.1,(a.2.1,(a.2.2.1,((a.2.2.2.1++[b.1]),a.2.2.2.2)))).2.2.2.2.1++[b.2.2.1]),(a.1,(a.2.1,(a.2.2.1,((a.2.2.2.1++[b.1]),a.2.2.2.2)))).2.2.2.2.2))))).2.1,y)).map λz=>(((a.1,(a.2.1,(a.2.2.1,((a.2.2.2.1++[b.1]),a.2.2.2.2)))).1,((a.1,(a.2.1,(a.2.2.1,((a.2.2.2.1++[b.1]),a.2.2.2.2)))).2.1,((a.1,(a.2.1,(a.2.2.1,((a.2.2.2.1++[b.1]),a.2.2.2.2)))).2.2.1,((a.1,(a.2.1,(a.2.2.1,((a.2.2.2.1++[b.1]),a.2.2.2.2)))).2.2.2.1,(((a.1,(a.2.1,(a.2.2.1,((a.2.2.2.1++[b.1]),a.2.2.2.2)))).2.2.2.2.1++[b.2.2.1]),(a.1,(a.2.1,(a.2.2.1,((a.2.2.2.1++[b.1]),a.2.2.2.2)))).2.2.2.2.2))))).1,z)).bind λA=>
 some (.inl (a7 f,k,A,l,())) else some (.inr (k,a,()))) (0,((0:Int),((0:Int),([],([],([],()))))),(s,(e,(List.replicate r (0:Int),(([]:a8),(([]:a8),()))))),i,())).bind λ(t,p,_)=>(loop (σ:=(Int×bQ×bQ×Unit)) (ρ:=(bQ×bQ×Unit)) (λ(d,j,c,_)=>cond (decide (d<e)) (rd c.2.2.1 (a7 d) λv=>rd c.2.2.1 d λw=>(bG (c.2.2.1).length (a7 d)).bind λh=>((((bt c.2.2.1 h λ_=>some ((c.2.2.1).set h (ax (v+w)))).map λB=>(B,c.2.2.2)).map λC=>(c.2.1,C)).map λD=>(c.1,D)).bind λE=>some (.inl (a7 d,j,E,()))) (some (.inr (j,c,())))) (0,t,p,())).bind λ(_,q,_)=>some (q,())
def xp:mK->Option (bQ×Int×Unit):=λ(a,_)=>(o6 (a,())).bind λ(aT,_)=>(cond (aT !=0) (some (((0:Int),((0:Int),(([]:a8),(([]:a8),(([]:a8),()))))),aT,())) ((uz (a,())).bind λ(g,_)=>(loop (σ:=(Int×bQ×jY×jY×Unit)) (ρ:=(bQ×jY×Unit)) (λ(d,e,b,f,_)=>cond (decide (d<aw g)) (Option.bind (α:=(bQ×jY×jY×Unit)) (rd f d λc=>cond (decide (c.1>=c.2.1)) ((dd (b.length+([c]).length)).bind λ_=>some (e,(b++[c]),f,())) (some (e,b,f,()))) λ(k,h,l,_)=>some (.inl (a7 d,k,h,l,()))) (some (.inr (e,b,())))) (0,((0:Int),((0:Int),([],([],([],()))))),[],g,())).bind λ(_,i,_)=>(xq (a.1,a.2.1,i,())).bind λ(j,_)=>some (j,0,())))
def xo:mK->Option i4:=λ(a,_)=>(o6 (a,())).bind λ(aT,_)=>(cond (aT !=0) (some ([],())) ((uz (a,())).bind λ(b,_)=>some (b,())))
def um:mK->Option ((List a8×Unit)×Int×Unit):=λ(a,_)=>(o6 (a,())).bind λ(c,_)=>(cond (c !=0) (some ((([]:List a8),()),c,())) (cond (a.1 !=a.2.1) (some ((([]:List a8),()),5,())) ((uo (a.2.1,())).bind λ(j,_)=>(xo (a,())).bind λ(aT,_)=>(loop (σ:=(Int×(List a8×Unit)×List nG×jY×Unit)) (ρ:=((List a8×Unit)×List nG×Unit)) (λ(b,d,e,f,_)=>cond (decide (b<aw aT)) (rd f b λg=>(us (e,g.1,g.2.1,())).bind λ(h,_)=>some (.inl (a7 b,d,h,f,()))) (some (.inr (d,e,())))) (0,([],()),j,aT,())).bind λ(_,k,_)=>(ur (k,())).bind λ(i,_)=>some (i,0,()))))
def qG:(bQ×a8×Unit)->Option (Option kY×Int×Unit):=λ(a,q,_)=>(o6 (a,())).bind λ(r,_)=>(bif r !=0 then some (none,r,()) else bif a.1 !=a.2.1 then some (none,5,()) else(x0 (q,a.2.1,())).bind λ(s,E,_)=>bif !E then some (none,90,()) else(xp (a,())).bind λ(F,_,_)=>(um (F,())).bind λ(G,_,_)=>(uq (G,q,())).bind λ(t,_,_)=>(fj a.2.1 a.2.1).bind λp=>(loop (σ:=(Int×bQ×kY×Unit)) (ρ:=(bQ×kY×Unit)) (λ(j,k,c,_)=>cond (decide (j<aw ((a.2.1,(t,(List.replicate p (none:Option (List (Int×bX)×Nat)),()))).2.2.1))) ((bG (c.2.2.1).length j).bind λn=>((((bt c.2.2.1 n λ_=>some ((c.2.2.1).set n (some ([],0)))).map λL=>(L,c.2.2.2)).map λM=>(c.2.1,M)).map λN=>(c.1,N)).bind λO=>some (.inl (a7 j,k,O,()))) (some (.inr (k,c,())))) (0,a,(a.2.1,(t,(List.replicate p (none:Option (List (Int×bX)×Nat)),()))),())).bind λ(l,z,_)=>
 (loop (σ:=(Int×bQ×kY×Unit)) (ρ:=(kY×Unit)) (λ(e,m,o,_)=>bif decide (e<l.2.1) then(aQ m.2.2.1 e).bind λI=>(loop (σ:=(Int×bQ×kY×Unit)) (ρ:=(bQ×kY×Unit)) (λ(f,d,b,_)=>(aQ d.2.2.1 (a7 e)).bind λJ=>cond (decide (f<J)) (Option.bind (α:=(bQ×kY×Unit)) ((aQ d.2.2.2.1 f).bind λu=>cond (decide (u>=e)) ((aQ s u).bind λg=>(aQ s e).bind λh=>(bG (b.2.2.1).length (if h<g then h else g)).bind λi=>(aQ d.2.2.2.2.1 f).bind λK=>(qu (K,())).bind λ(H,_)=>(bt b.2.2.1 i λx=>some x).bind λC=>(n6 C (if h>g then h else g) H).bind λD=>((((bt b.2.2.1 i λ_=>some ((b.2.2.1).set i D)).map λP=>(P,b.2.2.2)).map λQ=>(b.2.1,Q)).map λR=>(b.1,R)).bind λS=>some (d,S,())) (some (d,b,()))) λ(v,A,_)=>some (.inl (a7 f,v,A,()))) (some (.inr (d,b,())))) (I,m,o,())).bind λ(w,B,_)=>
 some (.inl (a7 e,w,B,())) else some (.inr (o,()))) (0,l,z,())).bind λ(y,_)=>some (some y,0,()))
def wM:(Option kY×Unit)->Option (jo×Unit):=λ(d,_)=>d.bind λx=>(xX (x.2.1,())).bind λ(e,_,_)=>d.bind λk=>(fj k.1 k.1).bind λt=>d.bind λl=>(fj l.1 l.1).bind λu=>d.bind λm=>(fj m.1 m.1).bind λs=>(loop (σ:=(Int×jo×Unit)) (ρ:=(jo×Unit)) (λ(b,h,_)=>bif decide (b<aw e) then(aQ e b).bind λj=>(loop (σ:=(Int×jo×Unit)) (ρ:=(jo×Unit)) (λ(f,a,_)=>bif decide (f<aw j) then Option.bind (α:=(jo×Unit)) ((aQ j f).bind λg=>bif decide (g>b) then(bG (a.2.2.2.1).length g).bind λi=>(bt a.2.2.2.1 i λq=>some q).bind λv=>(dd (v.length+([b]).length)).bind λ_=>(bG (a.2.2.2.1).length g).bind λc=>bif Nat.beq i c&&true then(bt a.2.2.2.1 c λr=>some r).bind λw=>(((((bt a.2.2.2.1 c λ_=>some ((a.2.2.2.1).set c (w++[b]))).map λy=>(y,a.2.2.2.2)).map λz=>(a.2.2.1,z)).map λA=>(a.2.1,A)).map λB=>(a.1,B)).bind λC=>
 some (C,()) else none else some (a,())) λ(n,_)=>some (.inl (a7 f,n,())) else some (.inr (a,()))) (0,h,())).bind λ(o,_)=>some (.inl (a7 b,o,())) else some (.inr (h,()))) (0,(e,(List.replicate t [],(List.replicate u (none:Option (List (Int×bX)×Nat)),(List.replicate s [],())))),())).bind λ(p,_)=>some (p,())
def xZ:(Option kY×Int×Int×Unit)->Option e7:=λ(c,a,b,_)=>c.bind λd=>(aQ d.2.2.1 (if b<a then b else a)).bind λe=>some (((hE (α:=bX) e (if b>a then b else a)).getD (false,((false,([],())),((0:Int),())))),())
def uf:(Option jo×Option kY×Int×Int×Unit)->Option e7:=λ(b,k,c,d,_)=>(xZ (k,c,d,())).bind λ(n,_)=>b.bind λu=>(aQ u.2.2.2.1 d).bind λj=>(loop (σ:=(Int×bX×lI×Unit)) (ρ:=(bX×lI×Unit)) (λ(e,f,a,_)=>cond (decide (e<aw j)) (Option.bind (α:=(bX×lI×Unit)) ((aQ j e).bind λh=>b.bind λr=>(aQ r.2.2.1 h).bind λi=>cond ((hE (α:=bX) i c).isSome) (b.bind λs=>(aQ s.2.2.1 h).bind λt=>(wS (((hE (α:=bX) i c).getD (false,((false,([],())),((0:Int),())))),((hE (α:=bX) t d).getD (false,((false,([],())),((0:Int),())))),())).bind λ(l,_)=>(wT (l,())).bind λ(g,_)=>(dd (a.length+([g]).length)).bind λ_=>some (f,(a++[g]),())) (some (f,a,()))) λ(o,p,_)=>some (.inl (a7 e,o,p,()))) (some (.inr (f,a,())))) (0,(false,((false,([],())),((0:Int),()))),[n],())).bind λ(_,q,_)=>(wY (q,())).bind λ(m,_)=>
 some (m,())
def wN:(jo×Option kY×Int×Unit)->Option (jo×Int×Unit):=λ(c,u,b,_)=>(uf (some c,u,b,b,())).bind λ(aT,_)=>(o4 (aT,())).bind λ(M,_)=>(bif decide (M<=0) then some (c,231,()) else(w6 (aT,0,())).bind λ(h,_)=>(w4 (h,())).bind λ(N,_)=>bif N==0 then some (c,231,()) else(qu (h,())).bind λ(O,_)=>(n6 (some ([],0)) b O).bind λE=>(bG (c.2.1).length b).bind λp=>(((bt c.2.1 p λ_=>some ((c.2.1).set p [h])).map λR=>(R,c.2.2)).map λS=>(c.1,S)).bind λe=>(bG (e.2.2.1).length b).bind λq=>((((bt e.2.2.1 q λ_=>some ((e.2.2.1).set q E)).map λT=>(T,e.2.2.2)).map λU=>(e.2.1,U)).map λV=>(e.1,V)).bind λo=>(qt (h,())).bind λ(H,_)=>bif !H then some (o,233,()) else((aQ o.1 b).bind λl=>((gW 1).bind λs=>(some l.length).bind λt=>(g9 s t l.length).map λ_=>(s,t)).bind λj=>
 (loop (σ:=(Int×jo×Unit)) (ρ:=((jo×Unit)⊕(jo×Int×Unit))) (λ(n,a,_)=>bif decide (n<aw ((l.take j.2).drop j.1)) then(aQ ((l.take j.2).drop j.1) n).bind λm=>(uf (some a,u,m,b,())).bind λ(I,_)=>(qu (h,())).bind λ(J,_)=>(w5 (I,J,0,())).bind λ(k,_)=>(qt (k,())).bind λ(K,_)=>bif !K then some (.inr (.inr (a,233,()))) else(bG (a.2.2.1).length b).bind λd=>(bG (a.2.1).length b).bind λr=>(bt a.2.1 r λx=>some x).bind λP=>(dd (P.length+([k]).length)).bind λ_=>(qu (k,())).bind λ(L,_)=>(bG (a.2.1).length b).bind λi=>bif Nat.beq r i&&true then(bt a.2.1 i λy=>some y).bind λQ=>(((bt a.2.1 i λ_=>some ((a.2.1).set i (Q++[k]))).map λW=>(W,a.2.2)).map λX=>(a.1,X)).bind λf=>(bt f.2.2.1 d λz=>some z).bind λv=>(n6 v m ((hE (α:=bX) v m).getD (false,((false,([],())),((0:Int),()))))).bind λC=>
 ((((bt f.2.2.1 d λ_=>some ((f.2.2.1).set d C)).map λY=>(Y,f.2.2.2)).map λZ=>(f.2.1,Z)).map λad=>(f.1,ad)).bind λg=>cond (Nat.beq d d&&true) ((bt g.2.2.1 d λA=>some A).bind λB=>(n6 B m L).bind λD=>((((bt g.2.2.1 d λ_=>some ((g.2.2.1).set d D)).map λam=>(am,g.2.2.2)).map λan=>(g.2.1,an)).map λap=>(g.1,ap)).bind λav=>some (.inl (a7 n,av,()))) none else none else some (.inr (.inl (a,())))) (0,o,())).bind λF=>match F with
 |.inl (w,_)=>(some (w,0,()))
 |.inr G=>some G))
def xz:eC->Option eC:=λ(a,_)=>lf a.length (some ([],())) ((dd (([]:a8).length+a.length)).bind λ_=>some (([]++a),()))
def wO:(Option jo×a8×Unit)->Option (iZ×Unit):=λ(e,h,_)=>(xz (h,())).bind λ(i,_)=>e.bind λk=>(loop (σ:=(Int×iZ×iZ×Unit)) (ρ:=(iZ×iZ×Unit)) (λ(d,f,a,_)=>bif decide (d<aw k.1) then e.bind λl=>(aQ l.1 d).bind λb=>(dd ((a.2.2.1).length+b.length)).bind λ_=>e.bind λj=>(aQ j.2.1 d).bind λc=>(dd (((a.1,(a.2.1,((a.2.2.1++b),a.2.2.2))).2.2.2.1).length+c.length)).bind λ_=>(dd ((((a.1,(a.2.1,((a.2.2.1++b),a.2.2.2))).1,((a.1,(a.2.1,((a.2.2.1++b),a.2.2.2))).2.1,((a.1,(a.2.1,((a.2.2.1++b),a.2.2.2))).2.2.1,(((a.1,(a.2.1,((a.2.2.1++b),a.2.2.2))).2.2.2.1++c),(a.1,(a.2.1,((a.2.2.1++b),a.2.2.2))).2.2.2.2)))).2.1).length+([aw (((a.1,(a.2.1,((a.2.2.1++b),a.2.2.2))).1,((a.1,(a.2.1,((a.2.2.1++b),a.2.2.2))).2.1,((a.1,(a.2.1,((a.2.2.1++b),a.2.2.2))).2.2.1,(((a.1,(a.2.1,((a.2.2.1++b),a.2.2.2))).2.2.2.1++c),(a.1,(a.2.1,((a.2.2.1++b),a.2.2.2))).2.2.2.2)))).2.2.1)]).length)).bind λ_=>
 some (.inl (a7 d,f,(((a.1,(a.2.1,((a.2.2.1++b),a.2.2.2))).1,((a.1,(a.2.1,((a.2.2.1++b),a.2.2.2))).2.1,((a.1,(a.2.1,((a.2.2.1++b),a.2.2.2))).2.2.1,(((a.1,(a.2.1,((a.2.2.1++b),a.2.2.2))).2.2.2.1++c),(a.1,(a.2.1,((a.2.2.1++b),a.2.2.2))).2.2.2.2)))).1,((((a.1,(a.2.1,((a.2.2.1++b),a.2.2.2))).1,((a.1,(a.2.1,((a.2.2.1++b),a.2.2.2))).2.1,((a.1,(a.2.1,((a.2.2.1++b),a.2.2.2))).2.2.1,(((a.1,(a.2.1,((a.2.2.1++b),a.2.2.2))).2.2.2.1++c),(a.1,(a.2.1,((a.2.2.1++b),a.2.2.2))).2.2.2.2)))).2.1++[aw (((a.1,(a.2.1,((a.2.2.1++b),a.2.2.2))).1,((a.1,(a.2.1,((a.2.2.1++b),a.2.2.2))).2.1,((a.1,(a.2.1,((a.2.2.1++b),a.2.2.2))).2.2.1,(((a.1,(a.2.1,((a.2.2.1++b),a.2.2.2))).2.2.2.1++c),(a.1,(a.2.1,((a.2.2.1++b),a.2.2.2))).2.2.2.2)))).2.2.1)]),((a.1,(a.2.1,((a.2.2.1++b),a.2.2.2))).1,((a.1,(a.2.1,((a.2.2.1++b),a.2.2.2))).2.1,((a.1,(a.2.1,((a.2.2.1++b),a.2.2.2))).2.2.1,(((a.1,(a.2.1,((a.2.2.1++b),a.2.2.2))).2.2.2.1++c),(a.1,(a.2.1,((a.2.2.1++b),a.2.2.2))).2.2.2.2)))).2.2)),())) else
 some (.inr (f,a,()))) (0,([],([],([],([],())))),(i,([0],(([]:a8),(([]:a8),())))),())).bind λ(_,g,_)=>some (g,())
def lQ:(bQ×a8×Unit)->Option zQ:=λ(g,e,_)=>(qG (g,e,())).bind λ(b,aT,_)=>(bif aT !=0 then some ((([]:a8),(([]:a8),(([]:a8),(([]:a8),())))),0,aT,()) else((wM (b,())).bind λ(m,_)=>b.bind λo=>(loop (σ:=(Int×iZ×jo×Unit)) (ρ:=((iZ×jo×Unit)⊕zQ)) (λ(c,f,d,_)=>cond (decide (c<o.1)) ((wN (d,b,c,())).bind λ(i,a,_)=>cond (a==0) (some (.inl (a7 c,f,i,()))) (cond (a==231) (some (.inr (.inr ((([]:a8),(([]:a8),(([]:a8),(([]:a8),())))),c,a,())))) (some (.inr (.inr ((([]:a8),(([]:a8),(([]:a8),(([]:a8),())))),0,a,())))))) (some (.inr (.inl (f,d,()))))) (0,([],([],([],([],())))),m,())).bind λj=>match j with
 |.inl (_,h,_)=>((wO (some h,e,())).bind λ(l,_)=>b.bind λn=>some (l,n.1,0,()))
 |.inr k=>some k))
def Au:jX->Option ew:=λ(b,c,_)=>(bif aw b !=aw c then some (false,()) else((loop (σ:=be) (ρ:=oQ) (λ(a,_)=>cond (decide (a<aw b)) ((aQ b a).bind λf=>(aQ c a).bind λg=>cond (f !=g) (some (.inr (.inr (false,())))) (some (.inl (a7 a,())))) (some (.inr (.inl ())))) (0,())).bind λd=>match d with
 |.inl _=>(some (true,()))
 |.inr e=>some e))
def xG:Unit->Option ew:=λ_=>(qE (4,0,())).bind λ(b,_)=>(qE (2,0,())).bind λ(a,_)=>(qE (5,0,())).bind λ(c,_)=>(lQ ((2,(2,([0,2,3],([0,1,1],([b,a,c],()))))),[0,1],())).bind λ(aT,d,e,_)=>(cond ((e==0)==true) (cond ((d==2)==true) ((uG (aT.2.1,[0,2,3],())).bind λ(f,_)=>cond (f==true) ((Au (aT.2.2.2.1,[a,4607182418800017408,a],())).bind λ(g,_)=>some (g,())) (some (false,()))) (some (false,()))) (some (false,())))
def mR:kZ->Option be:=λ(a,b,_)=>(gn (aH a) (aH b)).bind λc=>some (ax c,())
def uF:lK->Option be:=λ(b,a,_)=>Option.bind (α:=be) (cond (decide (aw b>0)) ((mR (a,aw b,())).bind λ(e,_)=>(aQ b e).bind λf=>some (pT IntKind.u64 (aH (aH (a7 a)*11400714819323198485)) f,())) (some (aH (aH (a7 a)*11400714819323198485),()))) λ(c,_)=>(df IntKind.u64 c 31).bind λd=>(df IntKind.u64 (aH (pT IntKind.u64 c d*13787848793156543929)) 29).bind λg=>some (pT IntKind.u64 (aH (pT IntKind.u64 c d*13787848793156543929)) g,())
def At:be->Option be:=λ(b,_)=>(gn b 19).bind λc=>(qE (ax (ax c-9),0,())).bind λ(a,_)=>some (a,())
def si:kZ->Option be:=λ(a,e,_)=>(mR (e,4,())).bind λ(b,_)=>(cond (b==1) ((df IntKind.u64 a 52).bind λf=>(fN IntKind.u64 (aH (1019+bD IntKind.u64 f 7)) 52).bind λg=>some (dQ IntKind.u64 (bD IntKind.u64 a 9227875636482146303) g,())) (cond (b==2) ((df IntKind.u64 a 8).bind λh=>(gn h 81).bind λi=>(fN IntKind.u64 (aH (983+i)) 52).bind λj=>some (dQ IntKind.u64 (bD IntKind.u64 a 9225623836668461056) j,())) (cond (b==3) ((sm (a,())).bind λ(d,_)=>cond (!d) (some (0,())) (some (a,()))) ((At (a,())).bind λ(c,_)=>some (c,())))))
def sg:(a8×Int×Int×Int×Unit)->Option mK:=λ(n,e,g,q,_)=>(loop (σ:=(Int×bQ×bQ×Unit)) (ρ:=(bQ×bQ×Unit)) (λ(d,k,h,_)=>bif decide (d<g) then(loop (σ:=(Int×bQ×bQ×Unit)) (ρ:=(bQ×bQ×Unit)) (λ(b,f,a,_)=>bif decide (b<e) then Option.bind (α:=(bQ×bQ×Unit)) ((uF (n,ax (ax (100+ax (d*e))+b),())).bind λ(i,_)=>(df IntKind.u64 i 40).bind λr=>(gn r 3).bind λs=>bif decide (s>0) then(dd ((a.2.2.2.1).length+([b]).length)).bind λ_=>(si (i,q,())).bind λ(j,_)=>(dd (((a.1,(a.2.1,(a.2.2.1,((a.2.2.2.1++[b]),a.2.2.2.2)))).2.2.2.2.1).length+([j]).length)).bind λ_=>some (f,((a.1,(a.2.1,(a.2.2.1,((a.2.2.2.1++[b]),a.2.2.2.2)))).1,((a.1,(a.2.1,(a.2.2.1,((a.2.2.2.1++[b]),a.2.2.2.2)))).2.1,((a.1,(a.2.1,(a.2.2.1,((a.2.2.2.1++[b]),a.2.2.2.2)))).2.2.1,((a.1,(a.2.1,(a.2.2.1,((a.2.2.2.1++[b]),a.2.2.2.2)))).2.2.2.1,(((a.1,(a.2.1,(a.2.2.1,((a.2.2.2.1++[b]),a.2.2.2.2)))).2.2.2.2.1++[j]),(a.1,(a.2.1,(a.2.2.1,((a.2.2.2.1++[b]),a.2.2.2.2)))).2.2.2.2.2))))),()) else
 some (f,a,())) λ(o,l,_)=>some (.inl (a7 b,o,l,())) else some (.inr (f,a,()))) (0,k,h,())).bind λ(p,c,_)=>(dd ((c.2.2.1).length+([aw c.2.2.2.1]).length)).bind λ_=>some (.inl (a7 d,p,(c.1,(c.2.1,((c.2.2.1++[aw c.2.2.2.1]),c.2.2.2))),())) else some (.inr (k,h,()))) (0,((0:Int),((0:Int),([],([],([],()))))),(e,(g,([0],(([]:a8),(([]:a8),()))))),())).bind λ(_,m,_)=>some (m,())
def xW:eC->Option ew:=λ(b,_)=>(loop (σ:=be) (ρ:=oQ) (λ(a,_)=>cond (decide (a<aw b)) ((aQ b a).bind λe=>(sm (e,())).bind λ(aT,_)=>cond (!aT) (some (.inr (.inr (false,())))) (some (.inl (a7 a,())))) (some (.inr (.inl ())))) (0,())).bind λc=>match c with
 |.inl _=>(some (true,()))
 |.inr d=>some d
def uP:mK->Option be:=λ(a,_)=>Option.bind (α:=Unit⊕be) (cond (decide (a.1<0)==false) (cond (decide (a.1>200)==false) (cond (decide (a.2.1<0)==false) (cond (decide (a.2.1>200)==false) (cond (decide (aw a.2.2.2.1>10000)) (some (.inr (6,()))) (some (.inl ()))) (some (.inr (6,())))) (some (.inr (6,())))) (some (.inr (6,())))) (some (.inr (6,())))) λb=>match b with
 |.inl _=>(Option.bind (α:=Unit⊕be) (cond ((aw a.2.2.2.2.1 !=aw a.2.2.2.1)==false) (cond ((aw a.2.2.1 !=a7 a.2.1)==false) ((aQ a.2.2.1 0).bind λn=>cond ((n !=0)==false) ((aQ a.2.2.1 a.2.1).bind λo=>cond (o !=aw a.2.2.2.1) (some (.inr (1,()))) (some (.inl ()))) (some (.inr (1,())))) (some (.inr (1,())))) (some (.inr (1,())))) λb=>match b with
 |.inl _=>((loop (σ:=be) (ρ:=lJ) (λ(f,_)=>cond (decide (f<a.2.1)) ((aQ a.2.2.1 f).bind λp=>(aQ a.2.2.1 (a7 f)).bind λq=>cond (decide (p>q)) (some (.inr (.inr (1,())))) (some (.inl (a7 f,())))) (some (.inr (.inl ())))) (0,())).bind λb=>match b with
 |.inl _=>((loop (σ:=be) (ρ:=lJ) (λ(e,_)=>bif decide (e<a.2.1) then((aQ a.2.2.1 e).bind λr=>(loop (σ:=be) (ρ:=(Unit⊕(be⊕lJ))) (λ(d,_)=>(aQ a.2.2.1 (a7 e)).bind λh=>bif decide (d<h) then(Option.bind (α:=Unit⊕(be⊕(Unit⊕(be⊕lJ)))) ((aQ a.2.2.2.1 d).bind λi=>cond (decide (i<0)==false) ((aQ a.2.2.2.1 d).bind λj=>cond (decide (j>=a.1)==false) ((aQ a.2.2.1 e).bind λk=>cond (decide (d>k)==true) ((aQ a.2.2.2.1 d).bind λl=>(aQ a.2.2.2.1 (ax (d-1))).bind λm=>cond (decide (l<=m)) (some (.inr (.inr (.inr (.inr (.inr (1,()))))))) (some (.inl ()))) (some (.inl ()))) (some (.inr (.inr (.inr (.inr (.inr (1,())))))))) (some (.inr (.inr (.inr (.inr (.inr (1,())))))))) λb=>match b with
 |.inl _=>(some (.inl (a7 d,())))
 |.inr c=>some c) else some (.inr (.inl ()))) (r,())).bind λb=>match b with
 |.inl _=>(some (.inl (a7 e,())))
 |.inr c=>some c) else some (.inr (.inl ()))) (0,())).bind λb=>match b with
 |.inl _=>((xW (a.2.2.2.2.1,())).bind λ(g,_)=>cond (!g) (some (4,())) (some (0,())))
 |.inr c=>some c)
 |.inr c=>some c)
 |.inr c=>some c)
 |.inr c=>some c
def qF:(bQ×Int×Int×Unit)->Option be:=λ(a,f,b,_)=>Option.bind (α:=Unit⊕be) ((uP (a,())).bind λ(aT,_)=>cond ((aT !=0)==false) (cond (decide (b<0)==false) (cond (decide (b>=a.2.1)) (some (.inr (0,()))) (some (.inl ()))) (some (.inr (0,())))) (some (.inr (0,())))) λd=>match d with
 |.inl _=>((aQ a.2.2.1 b).bind λg=>(loop (σ:=be) (ρ:=lJ) (λ(c,_)=>(aQ a.2.2.1 (a7 b)).bind λh=>cond (decide (c<h)) ((aQ a.2.2.2.1 c).bind λi=>cond (i==f) ((aQ a.2.2.2.2.1 c).bind λj=>some (.inr (.inr (j,())))) (some (.inl (a7 c,())))) (some (.inr (.inl ())))) (g,())).bind λd=>match d with
 |.inl _=>(some (0,()))
 |.inr e=>some e)
 |.inr e=>some e
def uQ:(bQ×Int×Int×Unit)->Option ew:=λ(a,c,b,_)=>Option.bind (α:=Unit⊕ew) (cond (decide (c<0)==false) (cond (decide (c>=a.1)==false) (cond (decide (b<0)==false) (cond (decide (b>=a.2.1)) (some (.inr (false,()))) (some (.inl ()))) (some (.inr (false,())))) (some (.inr (false,())))) (some (.inr (false,())))) λe=>match e with
 |.inl _=>((aQ a.2.2.1 b).bind λg=>(loop (σ:=be) (ρ:=oQ) (λ(d,_)=>(aQ a.2.2.1 (a7 b)).bind λh=>cond (decide (d<h)) ((aQ a.2.2.2.1 d).bind λi=>cond (i==c) (some (.inr (.inr (true,())))) (some (.inl (a7 d,())))) (some (.inr (.inl ())))) (g,())).bind λe=>match e with
 |.inl _=>(some (false,()))
 |.inr f=>some f)
 |.inr f=>some f
def uD:(a8×Int×Int×Unit)->Option mK:=λ(G,f,N,_)=>(mR (N,3,())).bind λ(aT,_)=>(sg (G,f,f,aT,())).bind λ(F,_)=>(loop (σ:=(Int×bQ×bQ×bQ×Unit)) (ρ:=(bQ×bQ×Unit)) (λ(h,r,w,n,_)=>bif decide (h<f) then(loop (σ:=(Int×bQ×bQ×bQ×Unit)) (ρ:=(bQ×bQ×bQ×Unit)) (λ(c,j,g,a,_)=>bif decide (c<f) then Option.bind (α:=(bQ×bQ×bQ×Unit)) (bif c==h then(uL (1,())).bind λ(A,_)=>(loop (σ:=(Int×bQ×bQ×bQ×lI×Unit)) (ρ:=(bQ×bQ×bQ×lI×Unit)) (λ(d,m,i,l,k,_)=>bif decide (d<f) then Option.bind (α:=(bQ×bQ×bQ×lI×Unit)) (cond (d !=c) ((qF (i,(if d>c then d else c),(if d<c then d else c),())).bind λ(B,_)=>(uN (B,())).bind λ(C,_)=>(xO (C,())).bind λ(o,_)=>(dd (k.length+([o]).length)).bind λ_=>some (m,i,l,(k++[o]),())) (some (m,i,l,k,()))) λ(H,s,x,I,_)=>
 some (.inl (a7 d,H,s,x,I,())) else some (.inr (m,i,l,k,()))) (0,j,g,a,[A],())).bind λ(J,t,b,K,_)=>(dd ((b.2.2.2.1).length+([c]).length)).bind λ_=>(xR (K,())).bind λ(D,_)=>(sn (D,2,())).bind λ(p,_)=>(dd (((b.1,(b.2.1,(b.2.2.1,((b.2.2.2.1++[c]),b.2.2.2.2)))).2.2.2.2.1).length+([p]).length)).bind λ_=>some (J,t,((b.1,(b.2.1,(b.2.2.1,((b.2.2.2.1++[c]),b.2.2.2.2)))).1,((b.1,(b.2.1,(b.2.2.1,((b.2.2.2.1++[c]),b.2.2.2.2)))).2.1,((b.1,(b.2.1,(b.2.2.1,((b.2.2.2.1++[c]),b.2.2.2.2)))).2.2.1,((b.1,(b.2.1,(b.2.2.1,((b.2.2.2.1++[c]),b.2.2.2.2)))).2.2.2.1,(((b.1,(b.2.1,(b.2.2.1,((b.2.2.2.1++[c]),b.2.2.2.2)))).2.2.2.2.1++[p]),(b.1,(b.2.1,(b.2.2.1,((b.2.2.2.1++[c]),b.2.2.2.2)))).2.2.2.2.2))))),()) else(uQ (g,c,h,())).bind λ(E,_)=>bif E then(dd ((a.2.2.2.1).length+([c]).length)).bind λ_=>(qF (g,c,h,())).bind λ(q,_)=>
 (dd (((a.1,(a.2.1,(a.2.2.1,((a.2.2.2.1++[c]),a.2.2.2.2)))).2.2.2.2.1).length+([q]).length)).bind λ_=>some (j,g,((a.1,(a.2.1,(a.2.2.1,((a.2.2.2.1++[c]),a.2.2.2.2)))).1,((a.1,(a.2.1,(a.2.2.1,((a.2.2.2.1++[c]),a.2.2.2.2)))).2.1,((a.1,(a.2.1,(a.2.2.1,((a.2.2.2.1++[c]),a.2.2.2.2)))).2.2.1,((a.1,(a.2.1,(a.2.2.1,((a.2.2.2.1++[c]),a.2.2.2.2)))).2.2.2.1,(((a.1,(a.2.1,(a.2.2.1,((a.2.2.2.1++[c]),a.2.2.2.2)))).2.2.2.2.1++[q]),(a.1,(a.2.1,(a.2.2.1,((a.2.2.2.1++[c]),a.2.2.2.2)))).2.2.2.2.2))))),()) else some (j,g,a,())) λ(L,u,y,_)=>some (.inl (a7 c,L,u,y,())) else some (.inr (j,g,a,()))) (0,r,w,n,())).bind λ(M,v,e,_)=>(dd ((e.2.2.1).length+([aw e.2.2.2.1]).length)).bind λ_=>some (.inl (a7 h,M,v,(e.1,(e.2.1,((e.2.2.1++[aw e.2.2.2.1]),e.2.2.2))),())) else some (.inr (r,n,()))) (0,((0:Int),((0:Int),([],([],([],()))))),F,(f,(f,([0],(([]:a8),(([]:a8),()))))),())).bind λ(_,z,_)=>
 some (z,())
def uE:lK->Option eC:=λ(m,j,_)=>(loop (σ:=lK) (ρ:=eC) (λ(a,c,_)=>cond (decide (c<j)) ((uF (m,ax (700+c),())).bind λ(l,_)=>(df IntKind.u64 l 1).bind λn=>(mR (ax n,a7 c,())).bind λ(i,_)=>((some (0)).bind λg=>(gW i).bind λh=>(g9 g h a.length).map λ_=>(g,h)).bind λb=>(dd (([]:a8).length+((a.take b.2).drop b.1).length)).bind λ_=>(dd (([]++((a.take b.2).drop b.1)).length+([c]).length)).bind λ_=>((gW i).bind λe=>(some a.length).bind λf=>(g9 e f a.length).map λ_=>(e,f)).bind λd=>(dd ((([]++((a.take b.2).drop b.1))++[c]).length+((a.take d.2).drop d.1).length)).bind λ_=>some (.inl (((([]++((a.take b.2).drop b.1))++[c])++((a.take d.2).drop d.1)),a7 c,()))) (some (.inr (a,())))) ([],0,())).bind λ(k,_)=>some (k,())
def xH:(a8×Int×Int×Bool×Unit)->Option (bQ×a8×Unit):=λ(b,e,c,d,_)=>(mR (e,6,())).bind λ(a,_)=>(cond d ((uD (b,a,c,())).bind λ(f,_)=>(uE (b,a,())).bind λ(g,_)=>some (f,g,())) ((sg (b,a,a,c,())).bind λ(h,_)=>(uE (b,a,())).bind λ(i,_)=>some (h,i,())))
def Av:(a8×Int×Int×Int×Unit)->Option ew:=λ(C,v,D,u,_)=>(mR (D,2,())).bind λ(w,_)=>(xH (C,v,w,true,())).bind λ(b,j,_)=>(mR (u,41,())).bind λ(k,_)=>(loop (σ:=(Int×bQ×bQ×Unit)) (ρ:=(bQ×bQ×Unit)) (λ(g,c,a,_)=>cond (decide (g<aw c.2.2.2.2.1)) ((aQ c.2.2.2.2.1 g).bind λE=>(lV (E,ax (2*ax (k-20)),0,())).bind λ(l,_)=>(dd ((a.2.2.2.2.1).length+([l]).length)).bind λ_=>some (.inl (a7 g,c,(a.1,(a.2.1,(a.2.2.1,(a.2.2.2.1,((a.2.2.2.2.1++[l]),a.2.2.2.2.2))))),()))) (some (.inr (c,a,())))) (0,b,(b.1,(b.2.1,(b.2.2.1,(b.2.2.2.1,(([]:a8),()))))),())).bind λ(o,p,_)=>(lQ (o,j,())).bind λ(m,_,x,_)=>(lQ (p,j,())).bind λ(n,_,y,_)=>Option.bind (α:=(iZ×iZ×Unit)⊕ew) (bif (x !=y)==false then bif aw m.2.2.2.1 !=aw n.2.2.2.1 then some (.inr (false,())) else
 some (.inl (m,n,())) else some (.inr (false,()))) λh=>match h with
 |.inl (q,s,_)=>((loop (σ:=(Int×iZ×iZ×Unit)) (ρ:=((iZ×iZ×Unit)⊕ew)) (λ(e,d,f,_)=>cond (decide (e<aw d.2.2.2.1)) ((aQ d.2.2.2.1 e).bind λF=>(lV (F,ax (k-20),0,())).bind λ(z,_)=>(aQ f.2.2.2.1 e).bind λG=>cond (z !=G) (some (.inr (.inr (false,())))) (some (.inl (a7 e,d,f,())))) (some (.inr (.inl (d,f,()))))) (0,q,s,())).bind λh=>match h with
 |.inl (r,t,_)=>((uG (r.2.2.1,t.2.2.1,())).bind λ(A,_)=>cond (A==true) ((xG ()).bind λ(B,_)=>some (B,())) (some (false,())))
 |.inr i=>some i)
 |.inr i=>some i
end Go.hX
section
namespace Go.Proofs
open Go.RowKit Go.Shelf Go.Sort
attribute [local go_sem] Oper.semAt_some
def Tryz.NM:Go.Shelf.Ren:=⟨λ|20=>275|n=>n,λ|22=>23|3=>3|4=>4|0=>0|n=>n,λ|n=>n⟩
def Tryz.FD:Lays2.n20 Tryz.prog Tryz.NM where
 mixed:=by kernel_rfl
 f20:=Tryz.func275.trans (congrArg some (by kernel_rfl))
 t0:=Tryz.underlying0
 a0:=Tryz.isAgg0
 z0:=Tryz.sizeOf0
 v0:=Tryz.zeroValue0
 t3:=Tryz.underlying3
 a3:=Tryz.isAgg3
 z3:=Tryz.sizeOf3
 v3:=Tryz.zeroValue3
 t4:=Tryz.underlying4
 a4:=Tryz.isAgg4
 z4:=Tryz.sizeOf4
 v4:=Tryz.zeroValue4
 t22:=Tryz.underlying23
 a22:=Tryz.isAgg23
 z22:=Tryz.sizeOf23
 v22:=Tryz.zeroValue23
 i3:=by kernel_rfl
namespace Dh
def jG {a:Type} (b:Nat->a) (c:Nat):List a:=(List.range c).map b
def IQ {c:Type} (a:Nat->c) (b:Nat):jG a (b+1)=jG a b++[a b]:=by simp[jG,p6]
def Th {c:Type} (b:Nat->c) (a:Nat):(jG b a).length=a:=by simp[jG]
def Tg (a:cQ):jG (λc=>a[c]?.getD 0) a.length=a:=by
 apply List.ext_getElem
 ·simp[jG]
 intro e d b;simp[jG,b]
set_option maxRecDepth 100000 in
set_option maxHeartbeats 2000000 in
def Tn (j:Fence) (m:Nat) (A:j.fn 290) (K:j.round=none) (T:1<=m) (v q n h k b x:Nat) (g:cQ) (V:b*8<=140737488351232) (F:h<n) (J r:cQ->World->Prop) (E:∀e o c,J e c->e.length<b->YieldAt j (m-1) Tryz.prog v #[.int .i64 o] c λi f=>
  (i=.returned (.bool true)/\J (e++[o]) f/\Below n c f)\/(i=.returned (.bool false)/\r (e++[o]) f))
 (c:World) (Q:c.cell? ⟨q,0,none⟩=some (.slice (some ⟨h,k,none⟩) b x)) (G:∀d,d<b->c.cell? ⟨h,k+d,none⟩=some (.int .i64 (g[d]?.getD 0))) (z:J [] c):
 CallsIn j m Tryz.prog 290 #[.func (.yield v) #[] #[],.pointer (some ⟨q,0,none⟩)] c λi f=>(∃L,i=.returned L)/\((∃w,w=jG (λd=>g[d]?.getD 0) b/\J w f)\/(∃e,(∃a,a<=b/\e=jG (λd=>g[d]?.getD 0) a)/\r e f)):=by
 refine callsIn_of_wp Tryz.func290 rfl A ?_ K;simp only[Tryz.ntmps290,oL,g2,oJ,Nat.reduceAdd,Nat.reduceSub,rA,rB,rM,rH,g4,iA]
 gi_wp2
 gi_loopw [7] (λl wr=>∃a:Nat,a<=b/\l=.int .i64 a/\J (jG (λd=>g[d]?.getD 0) a) wr/\Below n c wr) (λl _=>b-(intOf l).toNat)
 case atStart=>exact⟨0,eU _,rfl,z,Below.refl _ _⟩
 case round=>
  obtain⟨a,S,rfl,s,u⟩:=hrel;have H:a<b->wr.cell? ⟨h,k+a,none⟩=some (.int .i64 (g[a]?.getD 0)):=λy=>(u.cell (p:=⟨h,k+a,none⟩) F).trans (G a y);by_cases t:a<b
  ·obtain⟨P,X,N,O,W,D⟩:=E _ (g[a]?.getD 0) wr s (by rw[Th];exact t);have R:=H t
   gi_wp2
   refine D.mono ?_;rintro i M (⟨rfl,B,I⟩|⟨rfl,C⟩)
   ·gi_wp2
    go_roundw
    case rel=>exact⟨a+1,U,ab,by rw[IQ];exact B,u.trans I⟩
    case measure=>simp[intOf];omega
   gi_wp2
   refine bodyPost_ret (results_none rfl _ _ _) rfl ?_;exact⟨⟨_,rfl⟩,.inr ⟨_,⟨a+1,U,(IQ _ _).symm⟩,C⟩⟩
  obtain rfl:a=b:=by omega
  gi_wp2
  go_end0
  exact⟨⟨_,rfl⟩,.inl ⟨_,rfl,s⟩⟩
def Ti (a:cQ) {b:Nat} (d:b<=a.length):jG (λf=>a[f]?.getD 0) b=a.take b:=by
 apply List.ext_getElem
 ·simp[jG,d]
 intro e c g;have:e<a.length:=(by simp[jG] at c;omega);simp[jG,this]
def my (i:Nat) (g:World) (f:Value) (a:cQ):Prop:=
 (∃h c,f=.slice h 0 c/\a=[])\/∃b e c,f=.slice (some ⟨b,e,none⟩) a.length c/\b<i/\∀d,d<a.length->g.cell? ⟨b,e+d,none⟩=some (.int .i64 (a[d]?.getD 0))
def my.below {b:Nat} {c d:World} (l:Below b c d) {i:Value} {j:cQ}:my b c i j->my b d i j
 |.inl a=>.inl a
 |.inr ⟨e,h,k,a,f,m⟩=>.inr ⟨e,h,k,a,f,λg n=>(l.cell (p:=⟨e,h+g,none⟩) f).trans (m g n)⟩
set_option maxRecDepth 100000 in
set_option maxHeartbeats 1000000 in
def To (a:Fence) (n:Nat) (i:a.fn 290) (k:a.round=none) (m c:Nat) (e:Option Addr) (f:Nat) (J:cQ->World->Prop) (b:World) (p:b.cell? ⟨c,0,none⟩=some (.slice e 0 f)) (h:J [] b):CallsIn a n Tryz.prog 290 #[.func (.yield m) #[] #[],.pointer (some ⟨c,0,none⟩)] b λg d=>(∃o,g=.returned o)/\J [] d:=by
 refine callsIn_of_wp Tryz.func290 rfl i ?_ k;simp only[Tryz.ntmps290,oL,g2,oJ,Nat.reduceAdd,Nat.reduceSub,rA,rB,rM,rH,g4,iA]
 gi_wp2
 gi_loopw [7] (λl wr=>l=.int .i64 0/\J [] wr) (λ_ _=>0)
 case atStart=>exact⟨rfl,h⟩
 case round=>
  obtain⟨rfl,j⟩:=hrel
  gi_wp2
  go_end0
  exact⟨⟨_,rfl⟩,j⟩
set_option maxHeartbeats 1000000 in
def Tp (a:Fence) (i:Nat) (g:a.fn 277) (h:a.round=none) (c:Option Addr) (e d:Nat) (b:World):CallsIn a i Tryz.prog 277 #[.slice c e d] b λf j=>f=.returned (.func (.func 290) #[] #[.pointer (some ⟨b.heap.size,0,none⟩)])/\j=b.alloc (.cells #[.slice c e d] 23):=by
 refine callsIn_of_wp Tryz.func277 rfl g ?_ h;simp only[Tryz.ntmps277,oL,g2,oJ,Nat.reduceAdd,Nat.reduceSub,rA,rB,rM,rH,g4,iA]
 gi_wp2
 go_ret
 exact⟨rfl,rfl⟩
def Tq (c:Fence) (g:Nat) (l:c.fn 290) (o:c.round=none) (G:1<=g) (b h:Nat) (s:Value) (a:cQ) (I:a.length*8<=140737488351232) (e:World) (z:b<e.heap.size) (H:h<=e.heap.size) (D:e.cell? ⟨b,0,none⟩=some s) (A:my h e s a):SeqStopsK c g Tryz.prog 290 #[.pointer (some ⟨b,0,none⟩)] (λL:Int=>#[Value.int .i64 L]) (Below h) (λt=>t=a) (λr=>r<+:a) a.length e:=λq J u j m _ _ B k=>by
 have n:=(m.cell (p:=⟨b,0,none⟩) z).trans D;rcases A.below (m.mono H) with⟨w,i,rfl,rfl⟩|⟨x,K,i,rfl,C,E⟩
 ·exact(To c g l o q b w i J j n k).mono λy v ⟨f,d⟩=>⟨f,.inl ⟨_,rfl,d⟩⟩
 refine(Tn c g l o G q b h x K a.length i a I C J u B j n E k).mono ?_;rintro y v ⟨f,⟨t,rfl,d⟩|⟨r,⟨M,F,rfl⟩,d⟩⟩
 ·exact⟨f,.inl ⟨_,Tg a,d⟩⟩
 exact⟨f,.inr ⟨_,by rw[Ti a F];exact List.take_prefix _ _,d⟩⟩
def Nf:(Tryz.prog.info? 3).map (λa=>(a.zero,a.size,a.bytes))=some (some (.int .i64 0),1,8):=by kernel_rfl
set_option maxRecDepth 100000 in
set_option maxHeartbeats 2000000 in
def Kd (g:Fence) (m:Nat) (E:g.fn 299) (u:g.fn 290) (q:g.round=none) (av:3<=m) (e:Nat) (r:Value) (f:cQ) (M:f.length*8<=140737488351232) (a:World) (F:e<a.heap.size) (o:a.cell? ⟨e,0,none⟩=some r) (H:my a.heap.size a r f):CallsIn g m Tryz.prog 299 #[.slice none 0 0,.func (.func 290) #[] #[.pointer (some ⟨e,0,none⟩)]] a λB t=>∃b,B=.returned b/\t.ownsRow a.heap.size 3 1 b f.length (f.map (Value.int .i64))/\(b=.slice none 0 0↔f=[])/\Below a.heap.size a t:=by
 have D:1<=m:=U;obtain⟨S,J,P,Q,R⟩:=info_parts Nf;refine callsIn_of_wp_marks Tryz.func299 rfl E ?_ q;simp only[Tryz.ntmps299,oL,g2,oJ,Nat.reduceAdd,Nat.reduceSub,rA,rB,rM,rH,g4,iA]
 gi_wp2
 have A:=Boxed.new a 23 (.slice none 0 0);have n:Below a.heap.size a (a.alloc (.cells #[.slice none 0 0] 23)):=(Below.refl _ a).alloc (aZ _) _;refine wpIn_rangeFunc_ownG q D (gf:=290) (lb:=#[.pointer (some ⟨e,0,none⟩)]) rfl u (enters_of Tryz.func290 (by kernel_rfl) rfl) (Tq g (m-1) u q U e a.heap.size r f M _ (by simp;omega) ab ((n.cell (p:=⟨e,0,none⟩) F).trans o) (H.below n)) belowK_t (belowK_b ab) (Below.refl _ _) (λ_=>rfl) (λc d=>(∃b,Boxed d a.heap.size 23 b/\d.ownsRow a.heap.size 3 1 b c.length (c.map (Value.int .i64))/\(b=.slice none 0 0↔c=[]))/\Below a.heap.size a d) (λ_ _ _=>False) (OwnFrom.and (Own.from (holdsRow_own a.heap.size a.heap.size 23 3 1 (λc=>c.length) (λc=>c.map (Value.int .i64)) (λc b=>b=.slice none 0 0↔c=[])) _) (ownFrom_below (aZ _) ab)) (λ_ _ _ _ _ N _ _=>N) ⟨⟨_,A,World.ownsRow_nil _ _ _ _,ab⟩,n⟩ (λj=>{tmps:=#[.slice none 0 0,.func (.func 290) #[] #[.pointer (some ⟨e,0,none⟩)],.pointer (some ⟨a.heap.size,0,none⟩),undef,.slice none 0 0,.int .i64 j,.func (.func 290) #[] #[.pointer (some ⟨e,0,none⟩)],.int .i64 j,undef,undef,undef,undef,undef],defers:=[]}) ?assign ?body ?done ?stop
 case assign=>
  intro T j d V i
  gi_wp2
  exact i
 case body=>
  rintro T c j d ⟨⟨b,l,k,x⟩,h⟩ ap;have o:=l.cell;have an:f.length<=maxLen:=(by simp only[maxLen];omega);have Z:f.length*8<=140737488355328:=by omega
  gi_wp2_with (gi_at_builtin;refine wpListIn_append_own _ rfl _ _ 23 rfl a.heap.size 3 S (.int .i64 0) 1 8 Tryz.underlying23 J P Q R rfl aa _ _ _ rfl (k.alloc _) ⟨d.heap.size,0,none⟩ 1 1 [.int .i64 j] rfl rfl (cell_one_new _ _ _) (by simp[Value.oneCell']) U U (by have:=h.size;simp;omega) ?_;intro a0 a3 y I _;obtain⟨Y,X,rfl⟩:=ownsRow_succ y;obtain⟨z,O,L,K,v⟩:=l.appended aa k h.size (aZ _) y I;have ad:=z.cell;have am:=z.frozen)
  exact⟨K.from _,v,⟨_,O,by simpa using L,ab⟩,h.trans v⟩
 case done=>
  rintro s a4 d G rfl ⟨⟨b,l,k,x⟩,h⟩ i;have o:=l.cell
  gi_wp2
  refine⟨ab,.inl ⟨_,_,rfl,run_takeDeferred i,?_⟩⟩;exact⟨_,results_tmp rfl _ _ _,b,rfl,ownsRow_putObj k _ i rfl,x,h.trans (belowK_b (w:=a) (aZ _) d s _ _ (by simp at G;omega) i rfl rfl)⟩
 case stop=>
  rintro s W c d _ _ C _;exact C.elim
set_option maxHeartbeats 1000000 in
def K3 (b:Fence) (f:Nat) (m:b.fn 288) (k:b.fn 299) (l:b.fn 290) (j:b.round=none) (v:4<=f) (e:Nat) (g:Value) (c:cQ) (s:c.length*8<=140737488351232) (a:World) (n:e<a.heap.size) (q:a.cell? ⟨e,0,none⟩=some g) (o:my a.heap.size a g c):CallsIn b f Tryz.prog 288 #[.func (.func 290) #[] #[.pointer (some ⟨e,0,none⟩)]] a λi h=>∃d,i=.returned d/\h.ownsRow a.heap.size 3 1 d c.length (c.map (Value.int .i64))/\(d=.slice none 0 0↔c=[])/\Below a.heap.size a h:=by
 have u:1<=f:=U;refine callsIn_of_wp Tryz.func288 rfl m ?_ j;simp only[Tryz.ntmps288,oL,g2,oJ,Nat.reduceAdd,Nat.reduceSub,rA,rB,rM,rH,g4,iA]
 gi_wp2_with (gi_at_call 299;refine(Kd b (f-1) k l j U e g c s _ n q o).mono ?_;rintro i w ⟨d,rfl,t,r,p⟩)
 go_ret
 exact⟨d,rfl,t,r,p⟩
open Go.hX
theorem RC {M:bI->Nat->Prop} {f:World} {k:Nat} {j:Value} {b:cQ} (s:f.ownsRow k 3 1 j b.length (b.map (Value.int .i64))):∃d,aD M f (.osl (.int .i64)) [j] b d/\d.Nodup/\∀h∈d,k<=h/\h<f.heap.size:=by
 rcases s.2 with⟨rfl,t⟩|⟨e,l,i,rfl,w,q,u,A,v,m⟩
 ·obtain rfl:=kU t;exact⟨[],⟨none,0,rfl,.inl ⟨rfl,rfl,rfl,rfl⟩⟩,ab,ab⟩
 rw[Nat.mul_one] at v m;have o:∀a,a<l->f.cell? ⟨e,a,none⟩=some (i[a]?.getD undef)/\f.frozen? ⟨e,a,none⟩=false:=λa c=>(by constructor<;>simp[World.cell?,World.frozen?,q,(U:a<i.size)]);refine⟨[e],⟨some ⟨e,0,none⟩,l,rfl,.inr ⟨e,0,List.replicate b.length [],rfl,ab,ab,u,λa _ c=>?_,λg z d r p=>?_⟩⟩,ab,λh n=>?_⟩
 ·obtain⟨ao,y⟩:=o a (by simpa[ae.size] using c);exact⟨by rw[ao];rfl,y⟩
 ·have x:g<b.length:=(ej.1 r).1;obtain rfl:d=[]:=by
   rw[lB] at p;split at p<;>simp_all
  refine⟨[.int .i64 z],rfl,λa j c=>?_,rfl,rfl⟩;cases a with
  |succ a=>simp at c
  |zero=>
   simp only[iC,bw] at c;subst c;simp only[ae.size,Nat.mul_one,h1,lE];rw[(o g U).1];have:(i.toList.take b.length)[g]?=(b.map (Value.int .i64))[g]?:=(by rw[m]);rw[kj x,ts,gq,r] at this;rw[this];rfl
 simp only[fe] at n;subst n;exact⟨w,(lw.1 q).1⟩
def M8 {o:bI->Nat->Prop} {n:World} {i:Value} {a:cQ} {k:cP} (g:aD o n (.osl (.int .i64)) [i] a k):(∃j b,i=.slice j 0 b/\a=[])\/∃c e b,i=.slice (some ⟨c,e,none⟩) a.length b/\a.length<=b/\Holds (Value.int .i64) n c e a.toArray/\k=[c]:=by
 obtain⟨j,b,m,g⟩:=g;simp only[fd,and_true] at m;subst m;rcases g with⟨rfl,rfl,rfl,rfl⟩|⟨c,e,f,rfl,rfl,A,s,t,l⟩
 ·exact .inl ⟨none,0,rfl,rfl⟩
 right;have u:f.flatten=[]:=by
  rw[List.flatten_eq_nil_iff];intro C x;obtain⟨h,B,rfl⟩:=g3.1 x;obtain⟨r,_,_,y⟩:=l h (a[h]'(by omega)) f[h] ab ab
  exact y.1
 refine⟨c,e,b,rfl,s,λd v=>?_,by rw[u]⟩;have w:d<a.length:=(by simpa using v);obtain⟨r,z,p,_,q⟩:=l d a[d] (f[d]'(by omega)) ab ab
 subst q;have ao:=p 0 _ rfl;simp only[ae.size,Nat.mul_one,lE] at ao;exact⟨by rw[ao];simp[w],(t (e+d) U (by simp only[ae.size];omega)).2⟩
def zJ (E:dA) (c:cQ->cB):Prop:=∀b a,c b=some a->oB E 289 [.m ⟨.osl (.int .i64),b⟩ a] []
set_option maxRecDepth 100000 in
set_option maxHeartbeats 2000000 in
def Sy (i:Fence) (h:∀e,i.fn e) (z:i.round=none) (O:∀(ad:Nat) (e:FuncId) (v:cH) (c:World) (t:Ending->World->Prop),Calls Tryz.prog e v c t->CallsIn i ad Tryz.prog e v c t) {E:dA} (I:E.P=Tryz.prog) {C:cQ->cB} (Y:zJ E C) (k:Nat) (a0:5<=k) (m:Nat) (r:Value) (l s:cQ) (Z:C l=some s) (W:l.length*8<=140737488351232) (c:World) (J:iw E (λb=>b<c.heap.size) c) (H:m<c.heap.size) (N:c.cell? ⟨m,0,none⟩=some r) (K:my c.heap.size c r l):CallsIn i k Tryz.prog 276 #[.func (.func 290) #[] #[.pointer (some ⟨m,0,none⟩)]] c λp u=>∃g e D,p=.returned g/\aD D u (.osl (.int .i64)) [g] s e/\(∀b∈e,c.heap.size<=b)/\Below c.heap.size c u:=by
 have av:1<=k:=U;have a3:=h 288;have a4:=h 289;refine callsIn_of_wp Tryz.func276 rfl (h _) ?_ z;simp only[Tryz.ntmps276,oL,g2,oJ,Nat.reduceAdd,Nat.reduceSub,rA,rB,rM,rH,g4,iA]
 gi_wp2_with (first
  |(
   gi_at_call 288;refine(K3 i (k-1) (h _) (h _) (h _) z U m r l W _ H N K).mono ?_;rintro p F ⟨g,rfl,A,T,d⟩
   obtain⟨e,V,S,o⟩:=RC (M:=aY (λ_=>False) (λ_=>False)) A;have n:=Y l s Z F (λb=>b<c.heap.size) (λ_=>False) [g] [e] (λb a=>by rcases a with a|a;exact fA a d.size;exact a.elim) ⟨⟨[g],rfl,V⟩,trivial⟩ (by simpa using S) (λb d=>⟨Nat.not_lt.2 (o b (by simpa using d)).1,λa=>a,(o b (by simpa using d)).2⟩) True.intro (J.mono (λ_ a=>a) λb a=>d.block b a);rw[I] at n;have n:=O (k-1) _ _ _ _ n;clear A T)
  |(gi_at_call 289;refine n.mono ?_;rintro p an ⟨am,w,bl,B,rfl,f⟩))
 have Q:∃j,w=[j]:=by
  have:=f.args
  match w,this with
  |[j],_=>exact⟨j,rfl⟩
  |[],a=>exact a.elim
  |_::_::_,a=>exact a.2.elim
 obtain⟨j,rfl⟩:=Q;obtain⟨ap,aj,y⟩:=f.args.1;have R:=y.len;obtain⟨G,rfl⟩:=rL.1 R;have aj:g=G:=aj;subst aj;have X:B=[]:=by
  have:=f.res
  match B,this with
  |[],_=>rfl
  |_::_,a=>exact a.elim
 subst X
 go_ret
 refine⟨g,j,_,rfl,y,λb L=>?_,?_⟩
 ·have:=(f.D4 b (by simp[L])).2.2.2;rcases this with a|a
  ·exact bj d.size a
  exact(o b (by simpa using a)).1
 exact⟨f.os.trans d.os,f.tape.trans d.tape,f.output.trans d.output,bj d.size f.size,λq x=>(f.heap q (fA x d.size) (λa=>by have:=(o q (by simpa using a)).1;omega)).trans (d.block q x)⟩
def K8 {j:bI->Nat->Prop} {b:World} {B:Nat} {i:Value} {e:cQ} {h:cP} (n:aD j b (.osl (.int .i64)) [i] e h) (m:∀c∈h,B<=c) (r:e.length<=1000000):Calls Tryz.prog 275 #[i] b (λf g=>∃d a,f=.returned (.slice d (Lib.compact e).length a)/\Below B b g):=by
 rcases M8 n with⟨d,a,rfl,rfl⟩|⟨c,p,a,rfl,l,k,rfl⟩
 ·refine(Any.slices_Compact_int_empty Tryz.FD d a b).mono ?_;rintro f g ⟨rfl,rfl⟩;exact⟨d,a,rfl,Below.refl _ _⟩
 refine(Any.slices_Compact_int Tryz.FD c p a e b k U l).mono ?_;rintro f g ⟨rfl,s,rfl⟩;refine⟨_,a,rfl,rfl,rfl,rfl,by simp[putRow,mapBlock,Sort.ahead],λo q=>?_⟩;have:=m c ab;simp[putRow,mapBlock,Sort.ahead,tr,(U:c≠o)]
set_option maxRecDepth 100000 in
set_option maxHeartbeats 2000000 in
def S4 (g:Fence) (i:∀k,g.fn k) (p:g.round=none) (t:∀(S:Nat) (k:FuncId) (r:cH) (a:World) (q:Ending->World->Prop),Calls Tryz.prog k r a q->CallsIn g S Tryz.prog k r a q) {E:dA} (F:E.P=Tryz.prog) {x:cQ->cB} (O:zJ E x) (j:Nat) (am:7<=j) (c:Option Addr) (b e:Nat) (f m:cQ) (R:x f=some m) (N:f.length=b) (a0:f.length<=1000000) (Q:m.length<=1000000) (a:World) (G:iw E (λd=>d<a.heap.size) a) (H:my a.heap.size a (.slice c b e) f):CallsIn g j Tryz.prog 249 #[.slice c b e] a λh z=>h=.returned (.bool (decide ((Lib.compact m).length<f.length)))/\Below a.heap.size a z:=by
 have ad:1<=j:=U;have an:=i 277;have ap:=i 276;have av:=i 275;generalize M:(Lib.compact m).length=Z;refine callsIn_of_wp Tryz.func249 rfl (i _) ?_ p;simp only[Tryz.ntmps249,oL,g2,oJ,Nat.reduceAdd,Nat.reduceSub,rA,rB,rM,rH,g4,iA];have C:=Boxed.new a 23 (.slice c b e);have n:Below a.heap.size a (a.alloc (.cells #[.slice c b e] 23)):=(Below.refl _ a).alloc (aZ _) _;have I:my (a.alloc (.cells #[.slice c b e] 23)).heap.size (a.alloc (.cells #[.slice c b e] 23)) (.slice c b e) f:=by
  rcases H.below n with l|⟨d,T,D,h,o,L⟩
  ·exact .inl l
  exact .inr ⟨d,T,D,h,by simp;omega,L⟩
 have w:=Sy g i p t F O (j-1) U a.heap.size (.slice c b e) f m R U _ (G.mono (λd (l:d<a.heap.size)=>fA l n.size) λd l=>n.block d l) ab C.cell I
 gi_wp2_with (first
  |(gi_at_call 277;refine(Tp g (j-1) (i _) p c b e a).mono ?_;rintro h a4 ⟨rfl,rfl⟩)
  |(gi_at_call 276;refine w.mono ?_;rintro h y ⟨a3,k,V,rfl,v,u,o⟩;have s:=t (j-1) _ _ _ _ (K8 (B:=a.heap.size) v (λd J=>by have:=u d J;simp at this;omega) Q);rw[M] at s;have A:Below a.heap.size a y:=n.trans (o.mono ab);clear v u o w)
  |(gi_at_call 275;refine s.mono ?_;rintro h W ⟨X,Y,rfl,K⟩))
 go_ret
 exact⟨by rw[N];rfl,A.trans K⟩
def S0 (c:cQ->cB):g1:=⟨249,[.v (.aU .dO (.int .i64))],[.bool],λa=>(vR c a.1).map λb=>(b,())⟩
def S1 {E:dA} (q:E.P=Tryz.prog) {sort:cQ->cB} (K:zJ E sort):aJ E (S0 sort):=by
 refine⟨λg f=>by rw[q];exact Tryz.call249 g f,?_⟩;rintro⟨d,_⟩ b c;have w:(vR sort d).map (λb=>(b,()))=some b:=c;obtain⟨B,e,rfl⟩:=dE.1 w;clear c w;unfold vR at e;cases l:Nat.ble d.length 1000000 with
 |false=>rw[l] at e;cases e
 |true=>
 rw[l] at e;obtain⟨s,M,e⟩:=bP.1 e;cases m:Nat.ble s.length 1000000 with
 |false=>rw[m] at e;cases e
 |true=>
 rw[m] at e;have c:decide ((Lib.compact s).length<d.length)=B:=dF e;subst c;have l:=ek l;have m:=ek m;rintro f t A g k u h Z Y _hself;have h:jq (tn t A f) [.v ⟨.aU .dO (.int .i64),d⟩] g k:=h;obtain⟨p,j,rfl,rfl⟩:∃p j,g=[p]/\k=[j]:=by
  cases g with
  |nil=>exact h.elim
  |cons p g=>
   cases k with
   |nil=>exact h.elim
   |cons j k=>
    have a:=h.2;cases g with
    |nil=>cases k with
     |nil=>exact⟨p,j,rfl,rfl⟩
     |cons=>exact a.elim
    |cons=>exact a.elim
 obtain⟨⟨rfl,S,rfl,J⟩,_⟩:=h;obtain⟨_,o,i,rfl,X,ad,I⟩:=J;have G:my f.heap.size f (.slice o d.length i) d:=by
  rcases I with a|⟨b,O,rfl,H,L⟩
  ·exact .inl ⟨o,i,by rw[show d=[] from a];rfl,a⟩
  refine .inr ⟨b,O,i,rfl,u b H,λy x=>?_⟩;obtain⟨V,T,C,_,D⟩:=L y d[y] (by simp[x]);subst D;have z:=C 0 _ rfl;simp only[ae.size,Nat.mul_one,lE] at z;rw[z];simp[x]
 intro F;have a:=S4 Fence.wide (λ_=>trivial) rfl (λN j R f Q a=>(callsIn_wide (n:=N)).2 a) q K 10 U o d.length i d s M rfl l m f (F.mono (λb a=>u b (.inl a)) λ_ _=>rfl) G;have a:=callsIn_wide.1 a;show Calls E.P 249 #[.slice o d.length i] f _;rw[q];refine a.mono ?_;rintro W am ⟨rfl,c⟩;refine⟨t,[[]],[[]],[.bool _],rfl,⟨⟨rfl,trivial⟩,⟨⟨[.bool _],rfl,rfl,rfl⟩,trivial⟩,ab,ab,λ_ a=>a,λ_ a=>.inl a,c.size,c.os,c.tape,c.output,λb r=>.of_heap (c.block b r),λb r _=>c.block b r⟩⟩
end Dh
end Go.Proofs
end
namespace Go.hX
variable{a b f:Nat}{c n:Int}{d i:cQ}{e:Type}{g:Nat->Nat->Prop}{h:Nat->Prop}{j:cF}{k:Value}{l:List eV}{m:List ae}{o:Prop}{p:World}{r:List ResultVar}{s:Bool}{t:bI->Nat->Prop}{u:Func}
section
open Go.Proofs
open Tryz
abbrev dM:ae:=(.int .u32)
abbrev dV:ae:=(.aU .bm dM)
abbrev bC:ae:=(.st (.pr .bool (.pr dV .nil)))
abbrev aG:ae:=(.int .i64)
abbrev bS:ae:=(.st (.pr .bool (.pr bC (.pr aG .nil))))
abbrev hN:ae:=(.osl aG)
abbrev bW:ae:=(.int .u64)
abbrev Di:ae:=(.pr hN (.pr hN (.pr (.osl bW) .nil)))
abbrev fU:ae:=(.aU .dO aG)
abbrev jm:ae:=(.aU .dO bW)
abbrev Dj:ae:=(.pr fU (.pr fU (.pr jm .nil)))
abbrev gH:ae:=(.aU .bm aG)
abbrev Dk:ae:=(.pr gH (.pr gH (.pr (.aU .bm bW) .nil)))
abbrev wv:ae:=(.osl bS)
abbrev Dn:ae:=(.st (.pr aG (.pr aG (.pr wv .nil))))
abbrev rR:ae:=(.st (.pr aG (.pr aG (.pr fU (.pr aG .nil)))))
abbrev Dm:ae:=(.osl (.osl bW))
abbrev zP:ae:=(.optr (.st (.pr (.aU .bm gH) (.pr Dm (.pr (.osl (.mp bS)) (.pr (.osl hN) .nil))))))
abbrev oO:ae:=(.st (.pr aG (.pr aG (.pr (.aU .bm bS) .nil))))
abbrev lG:ae:=(.st (.pr aG (.pr aG (.pr bW .nil))))
abbrev zK:ae:=(.st (.pr aG (.pr aG (.pr (.osl bW) .nil))))
abbrev tT:ae:=(.st (.pr aG (.pr aG Di)))
abbrev JB:ae:=(.optr tT)
abbrev mI:ae:=(.st (.pr (.aU .bm gH) .nil))
abbrev lH:ae:=(.st (.pr (.aU .dO fU) .nil))
abbrev kq:ae:=(.st (.pr aG (.pr aG Dj)))
abbrev wm:ae:=(.st (.pr gH Dk))
abbrev JC:ae:=(.osl (.st (.pr aG (.pr aG (.pr hN (.pr aG .nil))))))
abbrev zN:ae:=(.osl .bool)
abbrev wo:ae:=(.osl zN)
abbrev tS:ae:=(.st (.pr aG (.pr aG Dk)))
abbrev JD:ae:=(.st (.pr aG (.pr aG (.pr (.aU .dO bS) .nil))))
abbrev zL:ae:=(.st (.pr (.osl gH) .nil))
abbrev jW:ae:=(.osl dM)
abbrev mJ:ae:=(.st (.pr .bool (.pr bC (.pr aG (.pr .bool .nil)))))
abbrev JE:ae:=(.optr Dn)
abbrev zO:ae:=(.st (.pr hN Di))
abbrev JF:ae:=(.optr zO)
abbrev JG:ae:=(.optr bS)
abbrev wq:ae:=(.st (.pr aG (.pr aG (.pr (.aU .bm bW) .nil))))
abbrev JH:ae:=(.ptr .bm bC)
abbrev JI:ae:=(.optr bC)
abbrev JJ:ae:=(.st (.pr fU Dj))
abbrev zM:ae:=(.optr (.st (.pr hN (.pr hN .nil))))
abbrev JK:ae:=(.optr (.st (.pr oO (.pr zK (.pr wv .nil)))))
abbrev JL:ae:=(.optr (.st (.pr aG (.pr mI (.pr (.osl (.mp bS)) .nil)))))
abbrev JM:ae:=(.ptr .bm kq)
abbrev oP:ae:=(.osl lG)
abbrev JN:ae:=(.ptr .bm bS)
abbrev ws:ae:=(.ptr .dO (.st (.pr aG (.pr lH (.pr (.aU .dO (.di .dO bS)) .nil)))))
abbrev JO:ae:=(.optr (.st (.pr wo (.pr zN .nil))))
abbrev JP:ae:=(.st (.pr aG (.pr aG (.pr jm .nil))))
abbrev wu:ae:=(.ptr .bm lH)
abbrev Dl:ae:=(.st (.pr aG (.pr aG (.pr gH (.pr gH (.pr (.osl bW) .nil))))))
abbrev JQ:ae:=(.optr wm)
abbrev JR:ae:=(.aU .dO rR)
abbrev JS:ae:=(.optr zK)
abbrev JT:ae:=(.ptr .bm JJ)
def tt:List (Nat×ae):=[(3,aG),(4,.bool),(5,(.int .u8)),(9,.str),(22,(.aU .bm bW)),(23,gH),(25,(.aU .bm bW)),(27,tS),(31,wm),(39,(.aU .bm gH)),(41,mI),(50,bW),(51,bW),(55,dV),(57,bC),(59,bS),(62,(.aU .bm bS)),(71,wq),(75,oO),(84,(.aU .bm (.st (.pr aG (.pr aG (.pr gH (.pr aG .nil))))))),(90,(.st (.pr aG (.pr aG (.pr gH (.pr aG .nil)))))),(102,(.aU .bm (.di .bm bS))),(104,(.st (.pr aG (.pr mI (.pr (.aU .bm (.di .bm bS)) .nil))))),(109,(.aU .bm (.aU .bm bW))),(117,(.aU .bm lG)),(120,lG),(122,(.aU .bm (.aU .bm .bool))),(124,(.aU .bm .bool)),(132,bW),(139,dM),(149,(.aU .bm (.aU .bm bS))),(155,(.aU .bm (.aU .bm (.st (.pr aG (.pr aG (.pr gH (.pr aG .nil)))))))),(156,(.aU .bm (.aU .bm oO))),(158,(.aU .bm oO)),(166,(.di .bm bS)),(168,(.st (.pr (.aU .bm gH) (.pr (.aU .bm (.aU .bm bW)) (.pr (.aU .bm (.di .bm bS)) (.pr (.aU .bm gH) .nil)))))),(175,(.st (.pr (.aU .bm (.aU .bm .bool)) (.pr (.aU .bm .bool) .nil)))),(206,(.st (.pr oO (.pr wq (.pr (.aU .bm bS) .nil))))),(212,(.aU .bm (.aU .bm .bool))),(223,mJ),(254,(.st (.pr gH (.pr gH .nil)))),(306,bW)]
def IE:∀a b,ai tt a=some b->dn Tryz.prog b a:=IF (by kernel_rfl)
def E:dA:={P:=Tryz.prog,tt:=tt,ok:=IE,mix:=by kernel_rfl,glob:=[⟨0,266,.u8,mN⟩],gok:=MS IE (S:=5) (by kernel_rfl) (by kernel_rfl)}
def CO:List ae:=[hN,jW,JE,bC,JG,JI,bS,JB,.bool,bW,wo,JH,oP,zN,Dn,JN,JM,wv,JF,JQ,JS,wm,JC,dV,(.optr tS),wu,(.optr zL),zP,tS,tT,mI,JT,zK,oO,(.optr mI),Dm,(.optr oO),zM,zO,(.osl wv),JL,gH,(.osl hN),(.ptr .bm JD),(.optr kq),JO,(.ptr .bm rR),JK,(.osl gH),(.optr wq),(.optr gH),zL,(.aU .bm gH),(.ptr .bm mJ),wq,rR,lG,(.optr bW),(.osl bW),(.ptr .bm JP),(.osl (.osl rR)),(.osl (.osl oO)),dM,(.ptr .bm lG),(.optr aG),aG,(.osl (.mp bS)),(.mp bS),mJ,(.aU .bm lG),(.optr Dl),Dl,(.optr rR),(.ptr .bm (.st (.pr aG (.pr mI (.pr (.aU .bm (.di .bm bS)) .nil))))),(.optr mJ),(.aU .bm (.aU .bm .bool)),(.st (.pr aG (.pr aG (.pr hN (.pr aG .nil))))),(.ptr .bm JR),(.osl rR),(.aU .bm (.st (.pr aG (.pr aG (.pr gH (.pr aG .nil))))))]
def aO {f:eY l->Option (gm l (iT m))} (g:tR E) (c:Nat) (e:E.P.funcs[a]?=some u) (d:(u.body.isSome&&Nat.ble l.length u.ntmps)=true:=by kernel_rfl) (i:(u.name=="runtime.NumGoroutine")=false:=by kernel_rfl) (h:∀b,u6 ⟨E.tt,g.1,(Cn CO c).2.1,u.ntmps,hk 0 l++kP (g0 0 l),[],(Cn CO c).2.2,g0 0 l,[],[],E.glob⟩ ((Cn CO c).1.ex (u.body.getD .skip)) (u.body.getD .skip) l u.results.toList m b=f b:=by intro b;kernel_rfl):aJ E ⟨a,l,m,f⟩:=
 aJ.q g _ e (KI e i (by have:=d;simp only[a2] at this;exact this.1)) _ _ d h
def vu:aJ E ⟨155,[.v dV],[jW],mS⟩:=aO aN 0x1152c455ab261c7f4b3435b0c101a28f318a51a6c0d func155
def sZ:aJ E ⟨153,[.v .bool,.v dV],[bC],kA⟩:=aO (au vu aN) 0x1835c319200d func153
def BU:aJ E ⟨162,[.v aG],[bC],sk⟩:=aO (au sZ aN) 0xf8124f00f3db5733a6c0d func162
def yS:aJ E ⟨149,[.v bC],[bC],o7⟩:=aO (au sZ aN) 0xc558600d func149
def vx:aJ E ⟨87,[],[bS],qC⟩:=aO aN 0xc08 func87
def qY (a:Int):eQ:=⟨E.tt,[],[],14,[0]++(hk 0 [.v dM]++kP (g0 0 [.v dM])),[(0,.val dM a)]++[],[],g0 0 [.v dM],[],[],E.glob⟩
noncomputable def pq:Code:=Tryz.f222.body.getD .skip
def qZ:Array Oper:=(rh 3 pq).getD #[]
def Bk:jJ:=.two .none (.leaf) (.two .none (.two .none (.leaf) (.leaf)) (.leaf))
def yy:jJ:=.keep [0] (.two .none (.leaf) (.two .none Bk (.two .none (.leaf) (.leaf))))
def sF (a:Int):aA:=⟨[(4,.val .bool (a==0)),(3,.val dM a),(2,.val aG 0),(0,.val dM a)],[]⟩
def Bj (a:Int):Exit->aA->Option (gm [.v dM] (iT [.int .i64])):=ES E.tt [.v dM] [.tmp 2] [.int .i64] (a,())
def NG:pq=.seq (zg pq) (.seq (zg (H8 pq)) (.seq (.region 3 qZ false) .ret)):=by kernel_rfl
def NJ:qZ.size=10:=by kernel_rfl
def NH (a:Int) (b:Exit->aA->Option e) (c:aA->Option e):fF (qY a) .leaf (zg pq) ⟨[(0,.val dM a)],[]⟩ e (vJ (λd=>fF (qY a) Bk (zg (H8 pq)) d e (vJ c b)) b)=bif a==0 then b .ret ⟨(2,.val aG 32)::(sF a).g,[]⟩ else c (sF a):=by kernel_rfl
def ND (a:Int) (b:aA->Option e):ih (qY a) qZ [0,1,2,3,4] (sF a) b=b ⟨(9,.val dM (IntKind.u32.wrap (bD IntKind.u32 a (IntKind.u32.wrap (0-a))*125613361)))::(8,.val dM (bD IntKind.u32 a (IntKind.u32.wrap (0-a))))::(7,.val dM (IntKind.u32.wrap (0-a)))::(6,.val dM a)::(5,.val dM a)::(sF a).g,[]⟩:=by kernel_rfl
def NE (a c d b:Int):ih (qY a) qZ [5,6,7,8,9] ⟨(9,.val dM b)::(8,.val dM c)::(7,.val dM d)::(6,.val dM a)::(5,.val dM a)::(sF a).g,[]⟩ (Bj a .ret)=(df IntKind.u32 b 27).bind λe=>(aQ mN e).bind λf=>some (IntKind.i64.wrap f,()):=by kernel_rfl
def NK (a:Int):Bj a .ret ⟨(2,.val aG 32)::(sF a).g,[]⟩=some ((32:Int),()):=by kernel_rfl
def NI (a:Int) (c:eY [.v dM]) (f g:Code) (b:Exit->aA->Option e) (h:c=(a,())):fF ⟨E.tt,[],[],14,hk 0 [.v dM]++kP (g0 0 [.v dM]),[],[],g0 0 [.v dM],[],[],E.glob⟩ yy (.seq f (.seq g (.seq (.region 3 qZ false) .ret))) ⟨kt 0 [.v dM] c,ku 0 [.v dM] c⟩ e b=fF (qY a) .leaf f ⟨[(0,.val dM a)],[]⟩ e (vJ (λd=>fF (qY a) Bk g d e (vJ (λd=>ih (qY a) qZ (List.range qZ.size) d (b .ret)) b)) b):=by subst h;rfl
def NF (b:eY [.v dM]):u6 ⟨E.tt,[],[],14,hk 0 [.v dM]++kP (g0 0 [.v dM]),[],[],g0 0 [.v dM],[],[],E.glob⟩ yy pq [.v dM] [.tmp 2] [.int .i64] b=sf b:=by obtain⟨a,⟨⟩⟩:=b;show fF _ yy pq _ _ (Bj a)=_;rw[NG,NI a _ _ _ _ rfl,NH,NJ,show List.range 10=[0,1,2,3,4]++[5,6,7,8,9] from rfl,A4,ND,NE,NK];exact Eq.refl (bif a==(0:Int) then some ((32:Int),()) else(df IntKind.u32 (IntKind.u32.wrap (bD IntKind.u32 a (IntKind.u32.wrap (0-a))*125613361)) 27).bind λc=>(aQ mN c).bind λd=>some (IntKind.i64.wrap d,()))
def Jg:g1:=⟨222,[.v dM],[aG],sf⟩
def GS:aJ E Jg:=
 aJ.of (fn:=Tryz.f222) (rs:=[.tmp 2]) [] [] [] yy func222 (by kernel_rfl) (by kernel_rfl) (by kernel_rfl) call222 Iv (by intro a;exact NF a)
def GA:aJ E ⟨150,[.v bC],[aG],nP⟩:=aO (au GS (au vu aN)) 0x10024021b60061aa16f0a6c0d func150
def B6:aJ E ⟨96,[.v bC],[bC],sj⟩:=aO (au sZ aN) 0xc558600d func96
def Pq:aJ E ⟨159,[.v dV,.v aG],[jW],xN⟩:=aO aN 0x2fd00a912de711870ac773ef9214db060d func159
def GD:aJ E ⟨160,[.v dV,.v aG],[jW,.bool],uJ⟩:=aO aN 0x614f4c61767eb710fe08fd87e0323167ca237bf1a98a5c17a7f224e8541bc559a5312616298cec1866b352774658e282429b060d func160
def QL:aJ E ⟨91,[.v bC],[bC],xJ⟩:=aO (au sZ aN) 0xc558600d func91
def Pn:aJ E ⟨156,[.v dV,.v dV],[jW],xL⟩:=aO aN 0x23988023a9faec3b45f1a9d20a16fd9c4dab20aca912de711870ac773ef9214db060d func156
def Po:aJ E ⟨157,[.v dV,.v dV],[aG],xM⟩:=aO aN 0x620a429b060d func157
def Pp:aJ E ⟨158,[.v dV,.v dV],[jW],uK⟩:=aO aN 0x17bb0017c6bb882a237ece26d59056547711870ac773ef9214db060d func158
def B4:aJ E ⟨94,[.v bC,.v bC],[bC],qB⟩:=aO (au Pp (au Po (au Pn (au vu (au sZ aN))))) 0x87eec45f48a50c4d35ea66c30c9e16a837605d467d5b93c028393a4a49226da742b0e4b5741c7d1a4425335b38ac9ddf6ec6d73aa14fbcfefe8f838d623e950613abe741d88d1c5709c0f41a3bd5b492627075fd81041753060d func94
def Pr:aJ E ⟨161,[.v bC,.v bC],[bC],xK⟩:=aO (au B4 (au QL aN)) 0x47abc6ad8004bcf2b753060d func161
def B5:aJ E ⟨95,[.v bC,.v aG],[bC],lU⟩:=aO (au BU (au Pr (au GD (au Pq (au sZ (au yS aN)))))) 0xcaf53489f2057710168d8556ac6329486eca222267d7d2d65d21ca8efbf21700b99aa9feb8968fe29e0c2b7cc4da53736a70e583dc212bdd729b060d func95
def GB:aJ E ⟨151,[.v bC,.v aG],[bC],sl⟩:=aO (au B5 aN) 0xe2205c936d94ccb18cf6de798ccc8a34c0d func151
def BX:aJ E ⟨223,[.v dM],[aG],se⟩:=aO aN 0x2b0e785dc03968a07d3 func223
def GC:aJ E ⟨152,[.v bC],[aG],uH⟩:=aO (au BX (au vu aN)) 0x1875c758600d func152
def s1:aJ E ⟨88,[.v bC,.v aG],[bS],mT⟩:=aO (au B6 (au vx (au GC (au GB (au GA (au yS aN)))))) 0x724ba83b4017485488500e722ae3e16367b635a8a6db6db060d func88
def Gy:aJ E ⟨119,[.v aG],[bS],uL⟩:=aO (au s1 (au BU aN)) 0x30a00d func119
def yW:aJ E ⟨90,[.v bS],[bS],qD⟩:=aO (au s1 (au vx aN)) 0x18578600d func90
def yX:aJ E ⟨93,[.v bC],[aG],nO⟩:=aO (au yS aN) 0xd func93
def GP:aJ E ⟨214,[.v .bool,.v bW],[bW],nQ⟩:=aO aN 0x60d func214
def PJ:aJ E ⟨211,[.v .bool,.v aG],[bW],uO⟩:=aO (au GP aN) 0x9c2dc93060d func211
def P8:aJ E ⟨261,[.v bC,.v aG],[.bool],uI⟩:=aO (au GD (au vu aN)) 0x532006591f2d72d628060d func261
def P9:aJ E ⟨262,[.v .bool,.v aG,.v .bool,.v aG],[.bool],xS⟩:=aO aN 0xe2860d func262
def PK:aJ E ⟨212,[.v .bool,.v bC,.v aG,.v .bool,.v aG],[bC],xP⟩:=aO (au B4 (au yX (au P9 (au P8 (au BU (au GB (au GA aN))))))) 0x3807c8b7a9c9b3668961efe0046c83a954908c31a270db6cf3584525828b7af36623b3c816a80161a18bfca935c86b03041ff1f9047b5c80affe17e6a536c48e2860d func212
def PL:aJ E ⟨213,[.v bC],[aG,.bool],xI⟩:=aO (au yS aN) 0x5ae249aa233c940edbc72429b6c0d func213
def Pl:aJ E ⟨141,[.v .bool,.v bC,.v aG,.v .bool,.v aG],[bW],xV⟩:=aO (au B5 (au GP (au PL (au PK (au PJ (au GC aN)))))) 0x22b3add0290828516648d1039f3c84119dcc4db6c48e2860d func141
def B2:aJ E ⟨81,[.v bS,.v aG],[bW],sn⟩:=aO (au B6 (au yX (au yW (au Pl aN)))) 0x19da07b2576fe1e0f0de891bd7f61ff15d7d51dcb46a6db060d func81
def G5:aJ E ⟨52,[.v aG,.v aG],[bW],qE⟩:=aO (au B2 (au Gy aN)) 0x60d func52
def Pw:aJ E ⟨192,[.v aG,.v aG,.v aG],[.bool],xx⟩:=aO aN 0x2860d func192
def G1:aJ E ⟨269,[.v aG],[.bool],o3⟩:=aO aN 0xd func269
def BY:aJ E ⟨234,[.v aG,.v aG],[.bool],qs⟩:=aO (au G1 aN) 0x60d func234
def PR:aJ E ⟨242,[.v fU],[.bool],xC⟩:=aO (au BY aN) 0x30a5214c0d func242
def Px:aJ E ⟨193,[.v kq],[.bool],xu⟩:=aO (au PR aN) 0x89168401d66b93f29e80930b3bf78f127d54e40fbd6eac4b248cdff8c5060d1e00b4c0d func193
def BQ:aJ E ⟨142,[.v bW],[aG,bW],r7⟩:=aO aN 0xd func142
def G7:aJ E ⟨84,[.v bW],[.bool],qt⟩:=aO (au BQ aN) 0xd func84
def Pz:aJ E ⟨195,[.v bW],[.bool],Am⟩:=aO (au G7 aN) 0xd func195
def PS:aJ E ⟨243,[.v jm,.c 195 []],[aG],Ao⟩:=aO (au Pz aN) 0x3195177853060d func243
def Py:aJ E ⟨194,[.v jm,.c 195 []],[.bool],xA⟩:=aO (au PS aN) 0x60d func194
def yR:aJ E ⟨121,[.v kq],[aG],o6⟩:=aO (au Px (au Pw (au Py aN))) 0x483600920a7b34c0d func121
def O9:aJ E ⟨122,[.v fU,.v aG],[hN,.bool],x0⟩:=aO aN 0x23c77e56d00647fd1d61649549b6abff84c188d32f8a2554b1020cf3dcc1d77269ed04fe9ab949db0f0a6db060d func122
def GJ:aJ E ⟨196,[.v kq],[oP],uz⟩:=aO aN 0xec1740ca8b5e9e93c588aef5307a40487df8decb96c7d388140c83212c38c63dac169e0af80c5dda3f3494ebde21bf45d879e23ce5ba59fb84722ac94c8b4af0a6c0d func196
def Qb:aJ E ⟨270,[.v (.aU .dO lG)],[oP],An⟩:=aO aN 0x60a00d func270
def G0:aJ E ⟨264,[.v aG,.v aG],[aG],r4⟩:=aO (au G1 aN) 0x60d func264
def Qe:aJ E ⟨273,[.v fU],[aG],wQ⟩:=aO aN 0x632a2d9d6f0a6c0d func273
def Qd:aJ E ⟨272,[.v lG,.v lG],[aG],xw⟩:=aO (au Qe (au G0 aN)) 0x28e9fae0dd280def2b0df6a0133753060d func272
def Qt:aJ E ⟨297,[.m oP,.v aG,.v aG,.c 272 []],[],uC⟩:=aO (au Qd aN) 0x1fdca31dde7cb0d8bf34bc3c1d304081ba01abde156dcc56a12968308e8d4d148233fc240beae1c265119b1fcee0193512ec062361d058528c369ed21e640c0613012180c2c38a1d func297
def Ql:aJ E ⟨287,[.m oP,.v aG,.c 272 []],[],As⟩:=aO (au Qt aN) 0x7829ba3655708d8741613cb0db19b0a09848e40d93620914769b0a1d func287
def Qc:aJ E ⟨271,[.m oP,.c 272 []],[],Ar⟩:=aO (au Ql aN) 0x1d func271
def PT:aJ E ⟨244,[.v (.aU .dO lG)],[oP],xv⟩:=aO (au Qb (au Qc aN)) 0x0 func244
def PA:aJ E ⟨197,[.v aG,.v aG,.v (.aU .dO lG)],[tT],xq⟩:=aO (au PT aN) 0x5a3f85b98bdf7eff56c4900496cc17a5459ca4c1389c3ca78ed9fdb796a7eddda72f06c44335785378b97734bce0410bbca212b7d64b107fd0f6d35eac33b7abac4c388988e1a1b885b6c43157869dc2f80b305468abaf6d2792356f8b81eaaaae1f1072831fb6bd57bf8332d71adbc1758d02cb63ee11911d7f2ac78a3301c727bd0ae51ed9585e0a97f9a8a37f63e3e95f1724ed8e712dd01241b00ae472df5b6b3faaceae5276f0a6c2860d func197
def Pa:aJ E ⟨123,[.v kq],[tS,aG],xp⟩:=aO (au PA (au GJ (au yR aN))) 0x3beb37f97f342f4fa2917b291440a89e8f546b1d5349e5d2da716dc66472bc48d07e89adecd2632bc29b6c0d func123
def GK:aJ E ⟨198,[.v aG],[wo],uo⟩:=aO aN 0x79677a82d7ee11bcab853234f0a6c0d func198
def PB:aJ E ⟨199,[.v kq],[oP],xo⟩:=aO (au GJ (au yR aN)) 0x30580600d func199
def GM:aJ E ⟨200,[.m wo,.v aG,.v aG],[],us⟩:=aO aN 0x1b90811b875b96fba90abaafbe04f9b237bf78113530a1d func200
def PU:aJ E ⟨245,[.v (.aU .dO (.aU .dO .bool)),.v aG],[hN],xa⟩:=aO aN 0x948004acb192e60c7711810d05f24c1bc29b060d func245
def GN:aJ E ⟨201,[.v (.aU .dO (.aU .dO .bool))],[zL],ur⟩:=aO (au PU aN) 0x3384dfc8aa712ada53cc49fdca8325d2f180e1ac57240657d8db9c29f047e2b4bfe5bb5632ad70cc90e5dc7c452cd240f0a6c0d func201
def Pb:aJ E ⟨124,[.v kq],[mI,aG],um⟩:=aO (au GN (au GM (au PB (au GK (au yR aN))))) 0x39f22550ff781f8719e6306c16e33de5b719964cffa114a1e02ab737b34a9bc29b6c0d func124
def PP:aJ E ⟨230,[.v fU,.v aG],[.bool],xb⟩:=aO aN 0x13f44846cbb9863e60a39d3c29b060d func230
def PQ:aJ E ⟨235,[.v aG],[.bool],xE⟩:=aO aN 0xd func235
def Pv:aJ E ⟨185,[.v fU,.v aG],[aG,.bool],xy⟩:=aO (au PQ (au BY aN)) 0x1098cc9b28a3b4db060d func185
def GW:aJ E ⟨231,[.v lH,.v aG,.v aG],[.bool],r8⟩:=aO (au Pv aN) 0xc8e02860d func231
def GI:aJ E ⟨178,[.v lH],[aG],uk⟩:=aO (au GW (au PP aN)) 0x6afcc24fd40bed2a076cf69658e6c3a9308c83eeb40b7f36760e07f7730cdd4d51aa578536c0d func178
def PX:aJ E ⟨248,[.v lH,.v aG],[.bool],xe⟩:=aO aN 0x3228060d func248
def Qy:aJ E ⟨311,[.v bW],[aG],En⟩:=aO aN 0x2089c6502b625dc039d87d3 func311
def Qw:aJ E ⟨301,[.v bW],[aG],Al⟩:=aO (au Qy aN) 0xd func301
def Qx:aJ E ⟨303,[.m hN,.v aG,.v aG],[],xD⟩:=aO (au BY aN) 0x38a4b03519c13a64e224dcdca5ab1d58671f6a6e5efc15ef57660e8f36506b24e15fd6d5d47412c43611215352028144b5ef00d873e014130d9eb4879003018400466030b0a1d func303
def Qv:aJ E ⟨300,[.m hN,.v aG,.v aG,.v aG],[],xF⟩:=aO (au Qx aN) 0xa037a2f31745800909a8451b130b0185b func300
def Qm:aJ E ⟨289,[.m hN],[],uB⟩:=aO (au Qw (au Qv aN)) 0x0 func289
def Jh:g1:=⟨249,[.v fU],[.bool],xd⟩
def PY:aJ E Jh:=Dh.S1 rfl (sort:=λd=>(uB (d,())).map λa=>a.1) (λe f b=>by obtain⟨a,c,rfl⟩:=dE.1 b;exact Qm.2 (e,()) a c)
def PW:aJ E ⟨247,[.v aG,.v wu],[.bool],Aj⟩:=aO (au PX aN) 0x60d func247
def Qf:aJ E ⟨274,[.v fU,.c 247 [wu]],[aG],Ap⟩:=aO (au PW aN) 0x3195177853060d func274
def PV:aJ E ⟨246,[.v fU,.c 247 [wu]],[.bool],xB⟩:=aO (au Qf aN) 0x60d func246
def PD:aJ E ⟨202,[.v lH,.v fU],[aG],w9⟩:=aO (au PY (au GI (au PV aN))) 0x3228060d func202
def PE:aJ E ⟨203,[.v lH,.v fU],[mI],xc⟩:=aO (au GW (au GN (au GM (au GK aN)))) 0x30e44f7c57872ef24b7f0269f787b3d0ab0d917dfd2d3bf03770a54dcdfd4aab44e10616d60f396e8dc67bd46e45237a114a37717b64961143c29b060d func203
def Pc:aJ E ⟨125,[.v lH,.v fU],[mI,aG],uq⟩:=aO (au PE (au PD aN)) 0x5c27228060d func125
def iQ:aJ E ⟨219,[.v dV],[dV],fL⟩:=aO aN 0x1a28f318a51a6c0d func219
def oc:aJ E ⟨220,[.v .bool,.v dV],[bC],iH⟩:=aO (au iQ aN) 0x19200d func220
def BR:aJ E ⟨145,[.v aG],[bC],sa⟩:=aO (au oc aN) 0xdf524f00f3db5733a6c0d func145
def Pm:aJ E ⟨146,[.v bW],[.bool],w7⟩:=aO aN 0xd func146
def yT:aJ E ⟨221,[.v dV],[jW],qA⟩:=aO aN 0x8a00d func221
def BS:aJ E ⟨147,[.v bC],[bC],o5⟩:=aO (au yT (au oc aN)) 0x13efd1aa73c519fa4e0f047e9e9ffe2c0dd4c0d func147
def BV:aJ E ⟨167,[],[bS],uh⟩:=aO aN 0xc08 func167
def PM:aJ E ⟨215,[.v bC],[bC],xh⟩:=aO (au yT (au oc aN)) 0x2e8ead1bdf62eff0bf10f98af03cb94add4c0d func215
def rb:aJ E ⟨144,[.v bC],[aG],lT⟩:=aO (au iQ aN) 0x58600d func144
def GQ:aJ E ⟨216,[.v bC],[aG],uw⟩:=aO (au GS aN) 0x18db00319516d1e14c0d func216
def GZ:aJ E ⟨263,[.v dV],[aG],sc⟩:=aO (au BX aN) 0xd func263
def vw:aJ E ⟨217,[.v bC],[aG],nM⟩:=aO (au GZ (au iQ aN)) 0x58600d func217
def BZ:aJ E ⟨266,[.v dV,.v aG],[dV],qz⟩:=aO (au iQ aN) 0x17d61a98816400461dc91aca8599e2f0a6db060d func266
def Qk:aJ E ⟨284,[.v dM],[.bool],Ak⟩:=aO aN 0xd func284
def Qs:aJ E ⟨296,[.v dV,.c 284 []],[aG],Aq⟩:=aO (au Qk aN) 0x3195177853060d func296
def Qj:aJ E ⟨283,[.v dV,.c 284 []],[.bool],uA⟩:=aO (au Qs aN) 0x60d func283
def B0:aJ E ⟨267,[.v dV,.v aG],[dV,.bool],sb⟩:=aO (au iQ (au Qj aN)) 0x60c80961156027764718e7622aa93a37fab0b3189b34975aa7f65628436c8eb47c8319eb684db060d func267
def yU:aJ E ⟨225,[.v dV,.v dV],[dV],qy⟩:=aO (au iQ aN) 0xdb4c17e13ab00475450f87f154f8d4e90b822cbf67136a692a64acb79d79b0e0d1f444529287d3 func225
def GV:aJ E ⟨228,[.v bC,.v aG],[bC,aG],nN⟩:=aO (au B0 (au BZ (au yU (au oc (au iQ aN))))) 0x2c0d40b5cc6a918322e878b0eb6ae3f9e74aecb10ad4f50c1e4140483ac0b923078ab8f6cc6453060d func228
def GR:aJ E ⟨218,[.v bC,.v aG],[bC],ui⟩:=aO (au GV aN) 0xe2205c936d94ccb18cf6de798ccc8a34c0d func218
def sY:aJ E ⟨143,[.v bS],[bS,.bool],lS⟩:=aO (au GR (au vw (au GQ (au PM (au BV (au rb aN)))))) 0xe88e9c99fe06e34bc272efdf39dec77aaf10f35ee489710341c5335c7b6c3cc66684b4db6c0d func143
def BT:aJ E ⟨148,[.v bC,.v aG],[bS],r5⟩:=aO (au sY aN) 0x316625628060d func148
def G8:aJ E ⟨86,[.v bW],[bS],qu⟩:=aO (au BT (au BS (au Pm (au BR (au BQ aN))))) 0x3925ad02e9096dc6661720c3db6f513426c0d func86
def QE:aJ E ⟨55,[.v kq,.v fU],[(.ptr .bm (.st (.pr aG (.pr mI (.pr (.aU .bm (.di .bm bS)) .nil))))),aG],qG⟩:=aO (au G8 (au Pc (au Pb (au Pa (au O9 (au yR aN)))))) 0x5018ebc57ea0902a45a7cc45e36a3ac811f9068bec82dff05718c2185f10c5f50d55348bd1b852b5946e8f1b0af97b85a37415b76eb4e235de891685622e87727a516d9159625c79f0d93ab6172956de91f65cb77e91f2f00eea715b5c3bcd3fc925964538d473c8cb923e4cb4e51618c985f8c14fae491d978b4fb45d4b0aba88dd274cdd4b44d0b55f578d602ddfa21edc28a626132d9ede1c31fd9acfec65d79dbfe48f0de891be3091fd7d51dcb46a6db6db060d func55
def P0:aJ E ⟨250,[.v aG],[zM],w3⟩:=aO aN 0x68d7626d24822e31fd43e4326bacbf4e8bf597f58df681426d59dbd0e0d48b8c7c64869ac3a658c901c6f3f61b0b5cd8c1d14d6b674875b70b28b0a01cf77dd99b15878fc33420c422cf77308e3742e96481d4c0d func250
def P1:aJ E ⟨251,[.m zM,.v aG,.v aG],[],w2⟩:=aO aN 0x10aa361dd57420b1c2412870768180c209e020b01842d func251
def PF:aJ E ⟨204,[.v lH],[hN,aG],w1⟩:=aO (au P1 (au P0 (au GI aN))) 0x1d466601902817f76158a465eac1030d40260f396e658ec771187691065f282f3c29b6c0d func204
def PG:aJ E ⟨205,[.v lH,.v fU,.v aG],[hN],xY⟩:=aO aN 0x225043b669c4499da18b9f643cdc74344c191a33ea0dee0326236e33dd1436c91920c1020ac08078a563de23b93b2dd37200239ee30d652a778536c2860d func205
def Pd:aJ E ⟨126,[.v lH],[(.osl hN),aG],xX⟩:=aO (au PG (au PF aN)) 0x101196d36b51336cff5910c333012d59261ba019892397cd1e265807109cb7733ce5b9a17baee462ca503194a1db2bc29b6c0d func126
def QF:aJ E ⟨56,[.v ws],[zP],wM⟩:=aO (au Pd aN) 0x1160fb55c1e64d7b0b588c29a96939950f04feaf6836831a03e100d15c59b298d3c951c2c226d4e4639c6ce0d8918375971392b3ded1dbe3bbe6f83d55db0e37a775572af01c1f8c6eed0dbb3ab93eb215386baa85b886d17f0e4b8cffe672546f7f580e701e7f503b73dc884fed3c1b49bf652cf4b6d60f8585b7691ff9200c69dd4bb97fb77d598790361505d50e25506b82d7e67e6159e8146b3d057588e23ad515c6bac781da231d283e06ea6c0d func56
def O5:aJ E ⟨107,[.v ws,.v aG,.v aG],[bS],xZ⟩:=aO aN 0x31a02860d func107
def Pt:aJ E ⟨166,[.v bS,.v bS],[bS,bS,.bool],wZ⟩:=aO (au sY aN) 0x2c8262799e875a6bde98b8a9221192db268d4db060d func166
def PO:aJ E ⟨224,[.v dV,.v dV],[dV],xm⟩:=aO (au iQ aN) 0x1eb3a11e0206afe4be3ec9734be5fb29993a2a0976f654c3424c58965faca692a303fe3afed168f9093060d func224
def GF:aJ E ⟨168,[.v bC,.v bC],[bC],uv⟩:=aO (au PO (au oc (au iQ aN))) 0x2b0d18995bb3d89730d0333753060d func168
def O3:aJ E ⟨103,[.v bS,.v bS],[bS],wS⟩:=aO (au GF (au BV (au Pt (au BT aN)))) 0x2558c8dcf458a3e3451a4b25b4863e7fafcb8d249ad23fafaa3b968d4db060d func103
def Pu:aJ E ⟨173,[.v bS],[bS],wT⟩:=aO (au BS (au sY aN)) 0x123c030f612331ba6c0d func173
def vv:aJ E ⟨170,[.v bC,.v aG],[bC],lR⟩:=aO (au GV aN) 0x648060d func170
def Qi:aJ E ⟨282,[.v dM],[.bool],wR⟩:=aO aN 0xd func282
def Qa:aJ E ⟨265,[.v dM,.v dM],[aG],wP⟩:=aO (au Qi aN) 0x60d func265
def yV:aJ E ⟨226,[.v dV,.v dV],[aG],qx⟩:=aO (au Qa (au G0 aN)) 0x620a429b060d func226
def GU:aJ E ⟨227,[.v dV,.v dV],[dV],sd⟩:=aO (au iQ aN) 0x547b594e4017c6c5a80b1171bf67136b342e6547711870dc773ef92c25e14db060d func227
def BW:aJ E ⟨169,[.v bC,.v bC],[bC],qw⟩:=aO (au GU (au yV (au yU (au oc (au iQ aN))))) 0x2ba375b6e655421c0bf15ec412370d6777027b00ff919578eb969b060d func169
def O4:aJ E ⟨104,[.v (.aU .dO bS)],[bS],wY⟩:=aO (au vv (au BW (au BV (au BT (au sY aN))))) 0xae16fe1637b94b5fb0041f497ecf81bd62c5e6f49050a76ef246bf1388da6aa08f337cf3dc03878579c75592d3623c0711d75a68025b3be199366ab0facb4a59a4a4678536c0d func104
def Pe:aJ E ⟨127,[.v (.ptr .dO (.st (.pr (.aU .dO fU) (.pr (.aU .dO jm) (.pr (.aU .dO (.di .dO bS)) (.pr (.aU .dO fU) .nil)))))),.v ws,.v aG,.v aG],[bS],uf⟩:=aO (au Pu (au O5 (au O4 (au O3 aN)))) 0x2986522e5e610db675a585258b404fc7b46efce8f0eb8641dfb0812c0de7089ae6f14d9cfd59896d0b309cc752624cedcf358bab7619a49a48f3e59a2476f12a16bc29b0e2860d func127
def B3:aJ E ⟨85,[.v bS],[aG],o4⟩:=aO (au rb (au sY aN)) 0xd func85
def Gx:aJ E ⟨106,[.v bS],[bS],r6⟩:=aO (au sY aN) 0x30a00d func106
def Qp:aJ E ⟨292,[.v dV,.v dM],[dV,dM],xl⟩:=aO (au iQ aN) 0x9630b9c40ad9326b91873b2776f29214db060d func292
def Qq:aJ E ⟨293,[.v dM],[aG],xn⟩:=aO (au BX aN) 0xd func293
def Ji:g1:=⟨294,[.w dM,.v dV],[dM],ux⟩
def Qr:aJ E Ji:=
 .q aN (.k [1] (.n (.n (.t .none (.d [.b [0],.a,.b [0],.b [0],.a,.a,.b [0],.a,.a,.b [0],.b [0],.a,.a,.a]) (.n (.t .none (.o (.k [5] (.p ⟨[(0,.w 0),(7,.v bW),(8,.v bW)],[(0,jW)]⟩ (.x 0 ⟨[(0,.w 0),(7,.v bW)],[(0,jW)]⟩) (.t (.ru [7,8] ⟨[(0,.w 0)],[(0,jW)]⟩) (.t .none (.d [.a,.a,.a,.a,.a,.a,.a,.a,.a,.a,.a,.a,.a,.b [0],.a,.a,.b [0],.b [0],.a,.a,.a,.a]) .l) .l)))) (.n (.t .none (.n (.o (.k [5,7,84,85] (.p ⟨[(0,.w 0),(9,.v bW),(10,.v bW),CS 86],[(0,jW)]⟩ (.x 2 ⟨[(0,.w 0),(9,.v bW),(10,.v bW)],[(0,jW)]⟩) .l)))) (.n (.n (.n (.n (.t .none (.n (.o (.k [5,7,140,141] (.p ⟨[(0,.w 0),(9,.v bW),CS 142],[(0,jW)]⟩ (.x 4 ⟨[(0,.w 0),(9,.v bW)],[(0,jW)]⟩) .l)))) .l))))))))))))) func294 call294
def G2:aJ E ⟨280,[.v dV,.v dV],[dV,dV],uy⟩:=aO (au Qr (au Qq (au Qp (au B0 (au BZ (au yV (au yT (au iQ aN)))))))) 0x18aeeeee0614f762e5dd2c918b4d25c40bf549368a461fe36e53e6c922f3a78536db6db060d func280
def Qh:aJ E ⟨279,[.v dV],[dV],xk⟩:=aO (au G2 (au B0 (au BZ (au GZ (au yV (au yU aN)))))) 0x8a302e3b0b6c0d func279
def P6:aJ E ⟨257,[.v bC],[bC,aG],xi⟩:=aO (au Qh (au oc (au iQ (au rb aN)))) 0xc558600d func257
def GH:aJ E ⟨175,[.v bC,.v bC],[aG],uu⟩:=aO (au yV (au iQ (au rb aN))) 0xb1d628060d func175
def PH:aJ E ⟨207,[.v bS,.v aG],[mJ],wX⟩:=aO (au P6 (au vw (au GH (au vv (au GF aN))))) 0x2135fda374ea4603644e2c5d1b68c241671428ff74fd108ca368163209b060d func207
def P2:aJ E ⟨252,[.v mJ],[aG],wV⟩:=aO (au vw aN) 0x19e0600d func252
def Qo:aJ E ⟨291,[.v bC,.v bC],[bC],xj⟩:=aO (au BW aN) 0x325628060d func291
def Qg:aJ E ⟨278,[.v mJ,.v aG],[bC,aG,.bool],ug⟩:=aO (au Qo (au GR (au vw (au GH (au vv (au BR (au rb aN))))))) 0x15822ed174d26dfd831e323133f662829d80b3eca42eebafa2c53c00f0fdbddf7b7bff50820b4cea6db060d func278
def P4:aJ E ⟨254,[.v mJ,.v aG,.v aG],[bC],wW⟩:=aO (au Qg (au GQ (au vv (au BW (au BS (au BR (au rb aN))))))) 0x3e334031969d38a98e7bb527a8a141cf3ec73866b2c881059210bc876c57f815cc2e41f6be7639f26ae4cb26c2860d func254
def GG:aJ E ⟨171,[.v bC],[bC],r9⟩:=aO (au yT (au oc aN)) 0x14d0c558600d func171
def P3:aJ E ⟨253,[.v bC],[aG,.bool],xg⟩:=aO (au iQ aN) 0xa7c641ea3f1d2d07444cbdff54d8852951b13b8897972bc29b6c0d func253
def GY:aJ E ⟨255,[.v bW,.v .bool],[bW],qv⟩:=aO aN 0x60d func255
def P5:aJ E ⟨256,[.v .bool,.v aG],[bW],w8⟩:=aO (au GY aN) 0x9c2dc93060d func256
def GO:aJ E ⟨206,[.v mJ,.v aG],[bW],uj⟩:=aO (au P5 (au GY (au P4 (au P3 (au P2 (au GG aN)))))) 0x13687806f3e04826db060d func206
def Pf:aJ E ⟨128,[.v bS,.v aG],[bW],w6⟩:=aO (au B3 (au PH (au GO (au Gx aN)))) 0x92e28966b99878d09b060d func128
def Pg:aJ E ⟨129,[.v bW],[aG],w4⟩:=aO (au BQ aN) 0x12bf69059a6c0d func129
def P7:aJ E ⟨258,[.v bC,.v bC],[bC,bC,aG],xf⟩:=aO (au G2 (au GU (au yU (au oc (au iQ aN))))) 0xf788e0b91f142043b401748e4882c0e722a5ad958f85ee0bd25cf7b632a826db060d func258
def PI:aJ E ⟨208,[.v bS,.v bS,.v aG],[mJ],wU⟩:=aO (au P7 (au vw (au GG (au vv (au rb aN))))) 0x22c85df5d481842180f66dee4a1f0d6701da11a33e060d970ef81ccfc0ebba803338937a0666ea6c2860d func208
def Ph:aJ E ⟨130,[.v bS,.v bS,.v aG],[bW],w5⟩:=aO (au B3 (au PI (au GO (au Gx aN)))) 0x13e836fa0a0cfaacc66bcf0792d67b8db2a141d202d2ede8d4c2860d func130
def QG:aJ E ⟨57,[.m zP,.v ws,.v aG],[aG],wN⟩:=aO (au G8 (au B3 (au G7 (au Ph (au Pg (au Pf (au Pe aN))))))) 0x10dba1f4f8120edd9dd30cabe8f167b36f9310f1a79b81e72859856af8bde2e4064de8cafd1ba07885c796edaa2c2aaeab745d75709c4daa3f07fbd45c06ea6b5baea9f5d231bf074d238349ac677c72d36fa6d387b62a21c9147023e35f9052f32241b042c78836d7adeb617cefd71c4ff3c3ad1fc6c6bf65dcb38fca0d4a81e02593194aaa9146b1f377ed4d0d4e9f095da41e46e07ff67db8e798b821b8d79027c1b2ac4ce8e1368113536db0a1d func57
def Pj:aJ E ⟨131,[.v fU],[hN],xz⟩:=aO aN 0xa00d func131
def QH:aJ E ⟨58,[.v (.ptr .dO (.st (.pr (.aU .dO fU) (.pr (.aU .dO jm) (.pr (.aU .dO (.di .dO bS)) (.pr (.aU .dO fU) .nil)))))),.v fU],[zO],wO⟩:=aO (au Pj aN) 0x2a7248e2604f0c572d41781da2b1a0a740520ee9c86d6dc0e2a353b6ca3e39d2fe3c1ce0655b25ac4c49c1edabeb72052defcaa3c7251f51e9622ec026a710f0301e2263807d473896eb1d0346e4523da2b37897b6497bc29b060d func58
def Gz:aJ E ⟨13,[.v kq,.v fU],[wm,aG,aG],lQ⟩:=aO (au QH (au QG (au QF (au QE aN)))) 0x1fbe16e4870ccc41ea4cfd424f281beac4f8e4997cc5df35cf888926775ba7ae0c492452747acb602a9db64a96ef0a6db060d func13
def GL:aJ E ⟨20,[.v fU,.v fU],[.bool],uG⟩:=aO aN 0x620a429b060d func20
def QC:aJ E ⟨53,[.v jm,.v jm],[.bool],Au⟩:=aO aN 0x620a429b060d func53
def O6:aJ E ⟨11,[],[.bool],xG⟩:=aO (au QC (au G5 (au GL (au Gz aN)))) 0x846c8d71aa48 func11
def s0:aJ E ⟨21,[.v aG,.v aG],[aG],mR⟩:=aO aN 0x60d func21
def G4:aJ E ⟨50,[.v jm,.v aG],[bW],uF⟩:=aO (au s0 aN) 0x6e1e9b060d func50
def B1:aJ E ⟨67,[.v bW],[.bool],sm⟩:=aO aN 0xd func67
def Ps:aJ E ⟨164,[.v bW],[bW],At⟩:=aO (au G5 aN) 0xd func164
def QM:aJ E ⟨99,[.v bW,.v aG],[bW],si⟩:=aO (au B1 (au s0 (au Ps aN))) 0x60d func99
def G3:aJ E ⟨35,[.v jm,.v aG,.v aG,.v aG],[tT],sg⟩:=aO (au QM (au G4 aN)) 0x26ad61a2fcac6d0c69be866cc52f25329f615a8be79998210665d9838131ef3304dd9cca493b561651c66f257d796a5e442809229a9e7525c0185c46280f5597b88b6ecd9611b603685a49a48d5e6b9be76f12429b0e2860d func35
def Pk:aJ E ⟨135,[.v jm],[.bool],xW⟩:=aO (au B1 aN) 0x30a5214c0d func135
def QI:aJ E ⟨68,[.v kq],[aG],uP⟩:=aO (au Pk aN) 0x9a39549089a231007afee5752252d7622a0dbbe989d68087900b4c0d func68
def PZ:aJ E ⟨25,[.v kq,.v aG,.v aG],[bW],qF⟩:=aO (au QI aN) 0xd97a01285e44d1e0174c2860d func25
def QK:aJ E ⟨89,[.v bW],[.bool],xT⟩:=aO aN 0xd func89
def GX:aJ E ⟨24,[.v bW],[bS],uN⟩:=aO (au QK (au s1 (au vx (au B1 aN)))) 0xb408ad23c030f40edbcce9b6c0d func24
def Qu:aJ E ⟨30,[.v bS],[bS],xO⟩:=aO (au B6 (au yW (au s1 aN))) 0x4de366eff100be544f8a38b13e96ed3a3536c0d func30
def Qn:aJ E ⟨29,[.v (.aU .dO bS)],[bS],xR⟩:=aO (au B5 (au B4 (au yX (au yW (au s1 (au vx aN)))))) 0xb7cf6e54984aea9210928e66e011d75fc8a7de57582f9a31366ed12770aca57b3c6bfa63105d72461b95c03fc6fdddffa3e1cdd6a1b289b12046d33a0738ba394a01c46ce9335ed77004b677c33263d561e81694b3490a6c0d func29
def O8:aJ E ⟨120,[.v kq,.v aG,.v aG],[.bool],uQ⟩:=aO aN 0xd97a01285e44d1e0174c2860d func120
def QD:aJ E ⟨54,[.v jm,.v aG,.v aG],[tT],uD⟩:=aO (au B2 (au G3 (au Qu (au Qn (au PZ (au GX (au s0 (au O8 (au Gy aN))))))))) 0x2c152ce85947ce4441db1e68240c8d19f5e0f4096b122cc59bf403a2d08a47d35de1ac1c9ed39d8428c880ea8385f17e1eb9a09162c22f2b490685eefb21424e59b36608ef5908c976139c785bfe1e7e0f395aab11a0adf7fa60afdf555f0696a77a9493cbe8ac2b87a970ad3a70db7dd45c81d04d1407c4b3cfe8f986501359c5f77ac0799bc6c90eef740c449333ecedafa526540666a44f515e8c62ac37611b602d836255c8d5ceb6d6770e1d5ca48536c2860d func54
def QB:aJ E ⟨51,[.v jm,.v aG],[gH],uE⟩:=aO (au G4 (au s0 aN)) 0x234ec7fd7f431f4037f42bce11987e021f92218c37bd4e5bee93d36ad1574e1189dd0058e85a1536b71dbe925704be32809846be9bf06b27a6e88228e95f2d63e765464c94d222429b060d func51
def O7:aJ E ⟨12,[.v jm,.v aG,.v aG,.v .bool],[tS,gH],xH⟩:=aO (au QD (au QB (au G3 (au s0 aN)))) 0x603d08fff807a11ffe00e22038a0d func12
def G6:aJ E ⟨80,[.v bW],[aG],uM⟩:=aO aN 0x12bf69059a6c0d func80
def QJ:aJ E ⟨79,[.v bW],[.bool],xU⟩:=aO (au G6 aN) 0xd func79
def Qz:aJ E ⟨33,[.v bS,.v aG],[bS],xQ⟩:=aO (au yX (au yW (au s1 (au vx aN)))) 0x3e2c814f8d4ffd8eece3f7ece22f9aa404a912e3078a66b8c6d8798cd09b060d func33
def PN:aJ E ⟨22,[.v bW,.v aG,.v aG],[bW],lV⟩:=aO (au B2 (au G6 (au QJ (au Qz (au GX aN))))) 0xa0d func22
def rC:g1:=⟨5,[.v jm,.v aG,.v aG,.v aG],[.bool],Av⟩
def QA:aJ E rC:=aO (au PN (au s0 (au GL (au Gz (au O7 (au O6 aN)))))) 0xef236a742697d65af828af850a05038715950dd8c3e9f2f252fc51980fee74c9b9f3f42070b518a62b0f4426987b5f6f14b47461d1addb5e1631aeddef8d2ee0d65b8af6563d9046a0169b4fde5c264e9837f227d6c35daa1559f277df12f8b5e07eaeac91c88d0151d1cca82f723f5bc29b6c2860d func5
end
def aI (a:Nat):Int:=4294967296^a
def af:cQ->Int
 |[]=>0
 |x::a=>x+4294967296*af a
def aK (b:cQ):Prop:=∀a∈b,0<=a/\a<4294967296
def aK.nil:aK []:=λ_ a=>by cases a
def aK.cons:aK (c::d)↔(0<=c/\c<4294967296)/\aK d:=by
 constructor
 ·exactλe=>⟨e c (lD ..),λb a=>e b (eH _ a)⟩
 rintro⟨f,g⟩ b a;rcases dw.1 a with rfl|a
 ·exact f
 exact g b a
def aK.append:aK (d++i)↔aK d/\aK i:=by
 constructor
 ·exactλc=>⟨λb a=>c b (lC _ a),λb a=>c b (kl _ a)⟩
 rintro⟨e,f⟩ b a;rcases eR.1 a with a|a
 ·exact e b a
 exact f b a
def aK.snoc (a:aK d) (b:0<=c) (e:c<4294967296):aK (d++[c]):=
 aK.append.2 ⟨a,aK.cons.2 ⟨⟨b,e⟩,aK.nil⟩⟩
def aK.take {a:cQ} (b:aK a) (d:Nat):aK (a.take d):=λe c=>b e (List.mem_of_mem_take c)
def aK.drop {a:cQ} (b:aK a) (d:Nat):aK (a.drop d):=λe c=>b e (List.mem_of_mem_drop c)
def aK.ls (b:Nat):aK (List.replicate b (0:Int)):=λc a=>by obtain⟨_,rfl⟩:=List.mem_replicate.1 a;exact⟨mw _,aa⟩
def aK.set {c:cQ} (d:aK c) {g:Nat} {b:Int} (e:0<=b) (f:b<4294967296):aK (c.set g b):=λh a=>by
 rcases List.mem_or_eq_of_mem_set a with a|rfl
 ·exact d h a
 exact⟨e,f⟩
def aK.get (a:aK d) {n:Nat} (b:n<d.length):0<=d[n]/\d[n]<4294967296:=a _ (dm b)
def es (a:Nat):0<aI a:=jQ aa
def fZ (a:Nat):aI (a+1)=4294967296*aI a:=by unfold aI;rw[Int.pow_succ,fI]
def tu (a b:Nat):aI (a+b)=aI a*aI b:=iy ..
def tv:aI 0=1:=rfl
theorem mr (a b:cQ):af (a++b)=af a+aI a.length*af b:=by
 induction a with
 |nil=>simp[af,tv]
 |cons d a c=>
  simp only[iA,af,g2,fZ,c];grind
def ni (a:cQ) (b:Int):af (a++[b])=af a+aI a.length*b:=by rw[mr];simp[af]
def dW {l:cQ} (a:aK l):0<=af l:=by
 induction l with
 |nil=>exact mw _
 |cons c l b=>
  have a:=aK.cons.1 a;have:=b a.2;simp only[af];omega
def fu (a:aK d):af d<aI d.length:=by
 induction d with
 |nil=>decide
 |cons c d b=>
  have a:=aK.cons.1 a;have:=b a.2;simp only[af,g2,fZ];omega
def gC (b:a<d.length):af (d.take (a+1))=af (d.take a)+aI a*d[a]:=by rw[jV,bB b];show af (d.take a++[d[a]])=_;rw[ni,eB,ga U]
def nj (b:cQ) (a:Nat) (c:a<=b.length):af b=af (b.take a)+aI a*af (b.drop a):=by
 conv=>lhs;rw[<-km a b]
 rw[mr,eB,ga c]
def jf (b:a<d.length):af (d.drop a)=d[a]+4294967296*af (d.drop (a+1)):=by rw[List.drop_eq_getElem_cons b];rfl
def pP (a:Nat):af (List.replicate a (0:Int))=0:=by
 induction a with
 |zero=>rfl
 |succ a b=>simp only[List.replicate_succ,af,b];rfl
theorem ms (b:a<d.length) (c:Int):af (d.set a c)=af d+aI a*(c-d[a]):=by
 induction d generalizing a with
 |nil=>simp at b
 |cons f d e=>
  cases a with
  |zero=>simp only[List.set_cons_zero,af,tv,List.getElem_cons_zero];grind
  |succ a=>
   simp only[List.set_cons_succ,af,List.getElem_cons_succ,fZ];rw[e (by simpa using b)];grind
def qM:Nat->Nat->cQ
 |0,_=>[]
 |f+1,a=>if a=0 then[] else((a %4294967296:Nat):Int)::qM f (a/4294967296)
def bx (a:Nat):cQ:=qM (Nat.log2 a+1) a
def dq (b:cQ):Prop:=∀a,b.getLast?=some a->a≠0
def LD:∀{a n:Nat},n<2^a->aK (qM a n)/\af (qM a n)=n/\dq (qM a n):=by
 intro a
 induction a with
 |zero=>
  intro n b;obtain rfl:n=0:=(by simpa using b);exact⟨aK.nil,rfl,λf b=>by cases b⟩
 |succ a j=>
  intro n b;unfold qM;split
  ·rename_i h;subst h;exact⟨aK.nil,rfl,λf b=>by cases b⟩
  rename_i k;obtain⟨i,d,g⟩:=j (n:=n/4294967296) (by rw[hy] at b;omega);refine⟨aK.cons.2 ⟨⟨U,U⟩,i⟩,?_,?_⟩
  ·simp only[af,d];omega
  intro f c;cases e:qM a (n/4294967296) with
  |nil=>
   rw[e] at c d;simp only[af] at d;simp only[List.getLast?_singleton,bw] at c;omega
  |cons m l=>
   rw[e,List.getLast?_cons_cons] at c;rw[e] at g;exact g f c
def AC (a:Nat):aK (bx a)/\af (bx a)=a/\dq (bx a):=LD Nat.lt_log2_self
def h7 (a:Nat):aK (bx a):=(AC a).1
def iI (a:Nat):af (bx a)=a:=(AC a).2.1
def k6 (a:Nat):dq (bx a):=(AC a).2.2
def dq.tail (b:dq (c::d)):dq d:=λe a=>by
 cases d with
 |nil=>cases a
 |cons f d=>exact b e (by rw[List.getLast?_cons_cons];exact a)
def dq.zero (e:aK d) (b:dq d) (c:af d=0):d=[]:=by
 induction d with
 |nil=>rfl
 |cons h d g=>
  obtain⟨⟨i,j⟩,a⟩:=aK.cons.1 e;have k:=dW a;simp only[af] at c;have f:h=0:=U;have:=g a b.tail U;subst this;subst f;exact absurd rfl (b 0 rfl)
def dq.uniq:∀{a b:cQ},aK a->aK b->dq a->dq b->af a=af b->a=b
 |[],b,_,e,_,g,c=>(dq.zero e g (by rw[<-c];rfl)).symm
 |a,[],d,_,f,_,c=>dq.zero d f (by rw[c];rfl)
 |x::a,k::b,d,e,f,g,c=>by obtain⟨⟨l,m⟩,h⟩:=aK.cons.1 d;obtain⟨⟨n,o⟩,i⟩:=aK.cons.1 e;simp only[af] at c;have j:x=k:=U;have:=dq.uniq h i f.tail g.tail U;rw[j,this]
def LH (b:aK d) (c:dq d) (e:af d=a):d=bx a:=
 dq.uniq b (h7 a) c (k6 a) (by rw[e,iI])
def dq.eq (a:aK d) (b:dq d):d=bx (af d).toNat:=
 LH a b (by have:=dW a;omega)
def dq.low (b:aK d) (f:dq d) (a:d≠[]):aI (d.length-1)<=af d:=by have c:=List.dropLast_concat_getLast a;have i:=f (d.getLast a) (List.getLast?_eq_some_getLast a);have j:=b _ (List.getLast_mem a);rw[<-c,ni];have k:=dW (l:=d.dropLast) (λh g=>b h (List.dropLast_subset _ g));have e:1<=d.getLast a:=U;have m:=iW e (ec (es d.dropLast.length));simp only[mD,List.length_singleton,tK];omega
theorem Ri (e:a<b):aI a<aI b:=by obtain⟨c,rfl⟩:∃c,b=a+(c+1):=⟨b-a-1,U⟩;rw[tu,fZ];have f:=es c;have d:=es a;have g:1*aI a<(4294967296*aI c)*aI a:=tA U d;grind
def ma {m n:Nat} (b:m<=n):aI m<=aI n:=by
 rcases bi m n with a|a
 ·exact ec (Ri a)
 obtain rfl:m=n:=U;exact mw _
def pa {n k:Nat} (d:(n:Int)<aI k):(bx n).length<=k:=by
 by_cases b:bx n=[]
 ·rw[b];exact eU _
 have c:=dq.low (h7 n) (k6 n) b;rw[iI] at c;rcases bi k (bx n).length with a|a
 ·have:=ma (m:=k) (n:=(bx n).length-1) U;omega
 exact a
def EC (a:Nat):(a:Int)<aI (bx a).length:=by have:=fu (h7 a);rwa[iI] at this
def ED:bx 0=[]:=rfl
def AB:bx a=[]↔a=0:=by
 constructor
 ·intro b;have:=iI a;rw[b] at this;simp only[af] at this;omega
 rintro rfl;rfl
def fO (a:cQ):cQ:=bx (af a).toNat
def IB (g:aK d) (h:a<=d.length) (f:∀b,a<=b->(j:b<d.length)->d[b]=0) (i:dq (d.take a)):d.take a=fO d:=by have c:af d=af (d.take a):=(by have e:d.drop a=List.replicate (d.length-a) 0:=(by refine List.ext_getElem ab λb c e=>?_;rw[List.getElem_drop,List.getElem_replicate];exact f _ U _);rw[nj d a h,e,pP];simp);rw[fO,c];exact dq.eq (g.take a) i
def Iy (a:cQ):aK (fO a):=h7 _
def Iz (a:cQ):dq (fO a):=k6 _
def IA (a:aK d):af (fO d)=af d:=by have:=dW a;rw[fO,iI];omega
def MP {b c:List e} (g:b.length=c.length) (f:∀a,a<b.length->b[a]?=c[a]?):b=c:=by
 apply hY;intro a;rcases bi a b.length with d|d
 ·exact f a d
 rw[hG d,hG U]
def zC (a c:cQ) (o:a.length<4611686018427387904):uG (a,c,())=some (a==c,()):=by
 rw[<-ac.eq_iff];unfold uG;simp only[ac.eL,ac.fh,ac.al];refine⟨λd=>?_,λd=>?_⟩
 ·simp at d;have:a≠c:=λf=>d (by rw[f]);simp[this]
 simp at d;have m:a.length=c.length:=U;refine ac.for (i0:=0) a.length (λe _=>∀b,b<e->a[b]?=c[b]?) rfl ab (eU _) ?_ ?_
 ·intro e n _ k g;simp only[ac.eL,ac.fh,ac.al,ac.kC];refine⟨λ_=>⟨k,U,λl=>?_,λj=>?_⟩,λh=>?_⟩
  ·simp at l;have:a≠c:=λf=>l (by simp[f]);simp[this]
  ·refine⟨jH U,λb p=>?_⟩;rcases bi b e with i|i
   ·exact g b i
   obtain rfl:b=e:=U;simp at j;rw[bB k,bB U,j]
  simp at h;omega
 intro n g;simp only[ac.eL,ac.fh,ac.al];refine⟨λh=>by simp at h,λ_=>?_⟩;simp[MP m g]
def th {b:List e} (c:a<b.length):b.take a++[b[a]]=b.take (a+1):=by rw[jV,bB c];rfl
def QY:d.Pairwise (· < ·)↔∀c,(e:c+1<d.length)->d[c]<d[c+1]:=by
 constructor
 ·intro e c k;exact(hx.1 e) c (c+1) U k U
 intro e;rw[hx];have m:∀b a (f:a<d.length) (g:a+b+1<d.length),d[a]<d[a+b+1]:=by
  intro b
  induction b with
  |zero=>intro a f g;exact e a g
  |succ b l=>
   intro a f g;have i:=l a f U;have j:=e (a+b+1) U;exact Int.lt_trans i j
 intro a h f g n;obtain⟨b,rfl⟩:∃b,h=a+b+1:=⟨h-a-1,U⟩;exact m b a f g
def mark (a:cM) (c:cQ):cM:=c.foldl (λa b=>a.set b.toNat true) a
section
def pV (a:cQ) (c:Int):Prop:=a.Pairwise (· < ·)/\∀b∈a,0<=b/\b<c
def ac.count {r:Type} {l:e->Option (e⊕r)} {j:r->Prop} (d:e->Int) (c:Nat) (f:Nat->e->Prop) {i0:Nat} {m:e} (v:d m=(i0:Int)) (s:f i0 m) (p:i0<=c) (x:∀a b,i0<=a->a<c->d b=(a:Int)->f a b->ac (l b) (λ|.inl i=>d i=((a+1:Nat):Int)/\f (a+1) i|.inr h=>j h)) (u:∀b,d b=(c:Int)->f c b->ac (l b) (λ|.inl _=>False|.inr h=>j h)):ac (hX.loop l m) j:=by
 refine ac.loop (λb=>∃a:Nat,i0<=a/\a<=c/\d b=(a:Int)/\f a b) (λb=>c-(d b).toNat) ⟨i0,aZ _,p,v,s⟩ ?_;rintro b ⟨a,w,p,k,q⟩;rcases bi a c with o|o
 ·refine(x a b w o k q).mono ?_;rintro(i|h) g
  ·obtain⟨n,t⟩:=g;exact⟨⟨a+1,U,U,n,t⟩,by rw[k,n];simp;omega⟩
  exact g
 obtain rfl:a=c:=U;refine(u b k q).mono ?_;rintro(i|h) g
 ·exact g.elim
 exact g
open Classical in
def Kh (b:cQ) (g:Int) (D:b.length<4611686018427387904):xb (b,g,())=some (decide (pV b g),()):=by
 rw[<-ac.eq_iff];unfold xb;simp only[ac.fh];refine ac.count (λr=>r.2.1) b.length (λa r=>r.1=(if a=0 then-1 else b.getD (a-1) 0)/\(b.take a).Pairwise (· < ·)/\∀f∈b.take a,0<=f/\f<g) (i0:=0) rfl ⟨rfl,ab,ab⟩ (eU _) ?_ ?_
 ·rintro a ⟨m,A,_⟩ _ e h ⟨j,k,l⟩;simp only at h j;subst h;simp only[ac.eL,ac.fh,ac.al,ac.kC];have z:∀f∈b.take a,f<=m:=by
   intro f d;rw[j];obtain⟨q,y,rfl⟩:=g3.1 d;simp only[eB] at y;have x:a≠0:=U;rw[ag x];simp only[List.getElem_take,List.getD,bB (U:a-1<b.length),rP];rcases bi q (a-1) with c|c
   ·have:=(hx.1 k) q (a-1) (by simp;omega) (by simp;omega) c;simp only[List.getElem_take] at this;omega
   have:q=a-1:=U;subst this;exact mw _
  have E:-1<=m:=by
   rw[j];by_cases i:a=0
   ·rw[ak i];exact mw _
   rw[ag i];simp only[List.getD,bB (U:a-1<b.length),rP];have:=l (b[a-1]) (g3.2 ⟨a-1,by simp;omega,ab⟩);omega
  have t:(b[a]<=m\/g<=b[a])->¬pV b g:=by
   rintro c ⟨B,u⟩;rcases c with c|c
   ·rw[j] at c;by_cases i:a=0
    ·rw[ak i] at c;have:=u _ (dm e);omega
    rw[ag i] at c;simp only[List.getD,bB (U:a-1<b.length),rP] at c;have:=(hx.1 B) (a-1) a U e U;omega
   have:=u _ (dm e);omega
  refine⟨λ_=>⟨e,λn=>⟨λo=>?_,λo=>?_⟩,λn=>?_⟩,λp=>by simp at p;omega⟩
  ·have:=t (.inr (by simpa using o));simp[this]
  ·simp at n o;refine⟨jH U,?_,?_,?_⟩
   ·simp[List.getD,e]
   ·rw[<-th e,List.pairwise_append];refine⟨k,ab,λv w C s=>?_⟩;simp only[fe] at s;subst s;have:=z v w;omega
   rw[<-th e];intro f d;rcases eR.1 d with d|d
   ·exact l f d
   simp only[fe] at d;subst d;omega
  have:=t (.inl (by simpa using n));simp[this]
 rintro⟨m,A,_⟩ h ⟨j,k,l⟩;simp only at h;subst h;simp only[ac.eL,ac.al];refine⟨λp=>by simp at p,λ_=>?_⟩;rw[tI] at k l;have:pV b g:=⟨k,l⟩;simp[this]
def C9 (a b:Int):qs (a,b,())=some (decide (a<b),()):=by unfold qs o3;simp
def I2 (a:Int) (b:0<=a) (c:a<18446744073709551616):IntKind.u64.wrap a=a:=by unfold IntKind.wrap;rw[ag (by simp[IntKind.signed])];show a %18446744073709551616=a;omega
def Ja (d:cQ) (f:Int) (F:d.length<4611686018427387904) (p:d.Pairwise (· < ·)):ac (xy (d,f,())) (λA=>A.2.1=decide (f∈d)):=by
 unfold xy;simp only[ac.fh];refine ac.mono (P:=λz=>∃a:Nat,z.1=(a:Int)/\a<=d.length/\(∀b,(e:b<d.length)->b<a->d[b]<f)/\(∀b,(e:b<d.length)->a<=b->f<=d[b])) ?_ ?_
 ·refine ac.loop (λn=>∃a c:Nat,n.1=(a:Int)/\n.2.1=(c:Int)/\a<=c/\c<=d.length/\(∀b,(e:b<d.length)->b<a->d[b]<f)/\(∀b,(e:b<d.length)->c<=b->f<=d[b])) (λn=>(n.2.1-n.1).toNat) ⟨0,d.length,rfl,rfl,eU _,aZ _,λb _ e=>by omega,λb j k=>by omega⟩ ?_;rintro⟨y,G,_⟩ ⟨a,c,rfl,rfl,E,r,j,k⟩;simp only[ac.eL,ac.fh,ac.al];refine⟨λi=>?_,λl=>?_⟩
  ·have i:a<c:=(by simpa using i);have aj:IntKind.i64.wrap ((a:Int)+c)=(a:Int)+c:=wrap64 U U;rw[aj,I2 _ U U];have x:df IntKind.u64 ((a:Int)+c) 1=some (((a+c)/2:Nat):Int):=by
    unfold df;rw[ak U];congr 1;show((a:Int)+c).fdiv (2^min 1 64)=_;rw[show(2:Int)^min 1 64=2 from rfl,v9 _ U];omega
   rw[x];simp only[ac.al];have t:IntKind.i64.wrap (((a+c)/2:Nat):Int)=(((a+c)/2:Nat):Int):=wrap64 U U;rw[t,ac.kC];refine⟨U,?_⟩;rw[C9];simp only[ac.al,ac.eL];have q:(a+c)/2<d.length:=U;refine⟨λg=>?_,λg=>?_⟩
   ·have g:d[(a+c)/2]<f:=(by simpa using g);rw[jH U];refine⟨⟨(a+c)/2+1,c,rfl,rfl,U,r,λb h v=>?_,k⟩,U⟩;rcases bi b ((a+c)/2) with e|e
    ·exact Int.lt_trans ((hx.1 p) b _ h q e) g
    have:b=(a+c)/2:=U;subst this;exact g
   have g:f<=d[(a+c)/2]:=(by simpa using g);refine⟨⟨a,(a+c)/2,rfl,rfl,U,U,j,λb h v=>?_⟩,U⟩;rcases bi ((a+c)/2) b with e|e
   ·have:=(hx.1 p) _ b q h e;omega
   have:b=(a+c)/2:=U;subst this;exact g
  have u:a=c:=(by have:¬a<c:=(by simpa using l);omega);subst u;exact⟨a,rfl,r,j,k⟩
 rintro⟨y,_⟩ ⟨a,rfl,D,j,k⟩;simp only;have s:(∀e:a<d.length,d[a]≠f)->f∉d:=by
  intro m w;obtain⟨b,h,rfl⟩:=g3.1 w;rcases qb b a with e|e|e
  ·have:=j b h e;omega
  ·subst e;exact m h rfl
  have B:=k a U (aZ _);have C:=(hx.1 p) a b U h e;omega
 simp only[ac.eL,ac.fh,ac.al,ac.kC];refine⟨λi=>?_,λl=>?_⟩
 ·have i:a<d.length:=(by simpa using i);refine⟨i,λm=>?_,λo=>?_⟩
  ·have m:d[a]≠f:=(by simpa using m);refine⟨i,?_⟩;unfold xE;simp[ac.al];exact s (λ_=>m)
  have o:d[a]=f:=(by simpa using o);simp[<-o]
 have l:¬a<d.length:=(by simpa using l);simp;exact s (λe=>absurd e l)
structure fk (bM:cF):Prop where
 asc:∀v,(h:v<bM.length)->pV bM[v] bM.length
 Nk:∀v,(h:v<bM.length)->(v:Int)∉bM[v]
 sym:∀v,(h:v<bM.length)->∀w:Nat,(hw:w<bM.length)->(w:Int)∈bM[v]->(v:Int)∈bM[w]
open Classical in
def jr (a:cF):Int:=if 200<a.length then 6 else if fk a then 0 else 1
open Classical in
def Be (a:cF) (b:Nat) (d:Int) (g:b<a.length) (e:a[b].length<4611686018427387904) (f:a[b].Pairwise (· < ·)):r8 ((a,()),(b:Int),d,())=some (decide (d∈a[b]),()):=by rw[<-ac.eq_iff];unfold r8;simp only[ac.fh,ac.kC];refine⟨g,(Ja _ _ e f).mono ?_⟩;rintro⟨i,h,_⟩ c;simp only at c;rw[ac.al,c]
def C2 (a:cF) (u:∀L∈a,L.length<4611686018427387904):uk ((a,()),())=some (jr a,()):=by
 classical
 rw[<-ac.eq_iff];unfold uk;simp only[ac.eL,ac.fh,ac.al];refine⟨λg=>?_,λg=>?_⟩
 ·have:200<a.length:=(by simp at g;omega);simp[jr,this]
 have z:¬200<a.length:=(by simp at g;omega);have y:¬fk a->(1:Int)=jr a:=λg=>(by simp[jr,z,g]);refine ac.mono (P:=λl=>(l=.inr (1,())/\¬fk a)\/(l=.inl ()/\∀c,(g:c<a.length)->pV a[c] a.length/\(c:Int)∉a[c])) ?_ ?_
 ·refine ac.for (i0:=0) a.length (λd _=>∀c,c<d->(g:c<a.length)->pV a[c] a.length/\(c:Int)∉a[c]) rfl (λc h=>by omega) (eU _) ?_ ?_
  ·rintro d _ _ j p;simp only[ac.eL,ac.fh,ac.al,ac.kC];refine⟨λ_=>⟨j,?_⟩,λi=>by simp at i;omega⟩;rw[Kh _ _ (u _ (dm j))];simp only[ac.al];refine⟨λq=>?_,λq=>.inl ⟨trivial,λf=>?_⟩⟩
   ·have q:pV a[d] a.length:=(by simpa using q);rw[Be a d d j (u _ (dm j)) q.1];simp only[ac.al,ac.eL];refine⟨λx=>.inl ⟨trivial,λf=>f.Nk d j (by simpa using x)⟩,λx=>⟨jH U,λc h C=>?_⟩⟩;rcases bi c d with n|n
    ·exact p c n C
    obtain rfl:c=d:=U;exact⟨q,by simpa using x⟩
   have:=f.asc d j;simp[this] at q
  intro A p;simp only[ac.eL,ac.al];exact⟨λi=>by simp at i,λ_=>.inr ⟨trivial,λc h=>p c h h⟩⟩
 rintro l (⟨rfl,f⟩|⟨rfl,t⟩)
 ·simp only[ac.al,y f]
 simp only[ac.fh];have F:(∀e,(g:e<a.length)->∀o∈a[e],∀b:Nat,o=(b:Int)->(k:b<a.length)->(e:Int)∈a[b])->fk a:=λg=>⟨λe f=>(t e f).1,λe f=>(t e f).2,λe f b k s=>g e f b s b rfl k⟩;refine ac.mono (P:=λl=>(l=.inr (1,())/\¬fk a)\/(l=.inl ()/\∀e,(g:e<a.length)->∀o∈a[e],∀b:Nat,o=(b:Int)->(k:b<a.length)->(e:Int)∈a[b])) ?_ ?_
 ·refine ac.for (i0:=0) a.length (λd _=>∀e,e<d->(g:e<a.length)->∀o∈a[e],∀b:Nat,o=(b:Int)->(k:b<a.length)->(e:Int)∈a[b]) rfl (λc h=>by omega) (eU _) ?_ ?_
  ·rintro d _ _ j p;simp only[ac.eL,ac.fh,ac.kC];refine⟨λ_=>⟨j,?_⟩,λi=>by simp at i;omega⟩;have M:=u _ (dm j);refine ac.mono (P:=λl=>(l=.inr (.inr (.inr (1,())))/\¬fk a)\/(l=.inl ()/\∀o∈a[d],∀b:Nat,o=(b:Int)->(k:b<a.length)->(d:Int)∈a[b])) ?_ ?_
   ·refine ac.for (i0:=0) a[d].length (λc _=>∀m,m<c->(g:m<a[d].length)->∀b:Nat,a[d][m]=(b:Int)->(k:b<a.length)->(d:Int)∈a[b]) rfl (λc h=>by omega) (eU _) ?_ ?_
    ·rintro c _ _ h v;simp only[ac.eL,ac.fh,ac.kC];refine⟨λ_=>⟨h,?_⟩,λi=>by simp at i;omega⟩;have N:=(t d j).1.2 _ (dm h);obtain⟨b,k⟩:∃b:Nat,a[d][c]=(b:Int):=⟨a[d][c].toNat,U⟩;have r:b<a.length:=U;rw[k,Be a b d r (u _ (dm r)) (t b r).1.1];simp only[ac.al,ac.eL];refine⟨λE=>.inl ⟨trivial,λf=>?_⟩,λK=>⟨jH U,λm s D B H I=>?_⟩⟩
     ·have:=f.sym d j b r (k▸dm h);simp[this] at E
     rcases bi m c with n|n
     ·exact v m n D B H I
     obtain rfl:m=c:=U;have:B=b:=U;subst this;simpa using K
    intro A v;simp only[ac.eL,ac.al];refine⟨λi=>by simp at i,λ_=>.inr ⟨trivial,λo J b k r=>?_⟩⟩;obtain⟨m,s,rfl⟩:=g3.1 J;exact v m s s b k r
   rintro l (⟨rfl,f⟩|⟨rfl,w⟩)
   ·simp only[ac.al];exact .inl ⟨trivial,f⟩
   simp only[ac.al];refine⟨jH U,λe f G=>?_⟩;rcases bi e d with n|n
   ·exact p e n G
   obtain rfl:e=d:=U;exact w
  intro A p;simp only[ac.eL,ac.al];exact⟨λi=>by simp at i,λ_=>.inr ⟨trivial,λc h=>p c h h⟩⟩
 rintro l (⟨rfl,f⟩|⟨rfl,w⟩)
 ·simp only[ac.al,y f]
 simp only[ac.al];simp[jr,z,F w]
end
section
inductive eo (A:Nat->Nat->Prop) (k:Nat):Nat->Nat->Prop
 |one {i j:Nat}:A i j->eo A k i j
 |step {i m j:Nat}:A i m->m<k->eo A k m j->eo A k i j
section
variable {A:Nat->Nat->Prop} {k:Nat}
def eo.trans (c:eo A k b a) (e:a<k) (d:eo A k a f):eo A k b f:=by
 induction c with
 |one c=>exact .step c e d
 |step c g _ h=>exact .step c g (h e d)
def eo.symm (f:∀d e,A d e->A e d) (c:eo A k a b):eo A k b a:=by
 induction c with
 |one c=>exact .one (f _ _ c)
 |step c g _ h=>exact h.trans g (.one (f _ _ c))
def eo.mono (g:k<=f) (c:eo A k a b):eo A f a b:=by
 induction c with
 |one c=>exact .one c
 |step c e _ d=>exact .step c U d
def eo.first (n:a<b) (j:eo A b a b):∃c,a<c/\c<=b/\eo A a a c/\(c=b\/eo A b c b):=by
 have o:∀{d f:Nat},eo A b d f->f=b->(d=a\/(d<a/\eo A a a d))->∃c,a<c/\c<=b/\eo A a a c/\(c=b\/eo A b c b):=by
  intro d f j
  induction j with
  |@one d f g=>
   intro h e;subst h;refine⟨f,n,aZ _,?_,.inl rfl⟩;rcases e with rfl|⟨e,i⟩
   ·exact .one g
   exact i.trans e (.one g)
  |@step d k f g p i m=>
   intro h e;have l:eo A a a k:=by
    rcases e with rfl|⟨e,i⟩
    ·exact .one g
    exact i.trans e (.one g)
   rcases qb k a with hmu|hmu|hmu
   ·exact m h (.inr ⟨hmu,l⟩)
   ·exact m h (.inl hmu)
   subst h;exact⟨k,hmu,U,l,.inr i⟩
 exact o j rfl (.inl rfl)
def iz (A:Nat->Nat->Prop) (c a:Nat):Prop:=c<a/\eo A a c a/\∀b,c<b->b<a->¬eo A b c b
def iz.uniq {p:Nat} (c:iz A b p) (d:iz A b a):p=a:=by
 rcases qb p a with e|f|e
 ·exact absurd c.2.1 (d.2.2 p c.1 e)
 ·exact f
 exact absurd d.2.1 (c.2.2 a d.1 e)
def iz.fill (c:iz A b a):eo A b b a:=by
 obtain⟨d,g,h,e,i⟩:=eo.first c.1 c.2.1;rcases bi d a with f|f
 ·exact absurd (e.mono U) (c.2.2 d g f)
 obtain rfl:d=a:=U;exact e
def Hi (n:b<a) (o:eo A a b a):∃d,d<=a/\iz A b d:=by
 have:∀e,∀a,b<a->a<=e->eo A a b a->∃d,d<=a/\iz A b d:=by
  intro e
  induction e with
  |zero=>intro a i k;omega
  |succ e p=>
   intro a i k l;by_cases h:∃c,b<c/\c<a/\eo A c b c
   ·obtain⟨c,f,j,g⟩:=h;obtain⟨d,q,m⟩:=p c f U g;exact⟨d,U,m⟩
   exact⟨a,aZ _,i,l,λc f j g=>h ⟨c,f,j,g⟩⟩
 exact this a a n (aZ _) o
inductive fP (A:Nat->Nat->Prop):Nat->Nat->Prop
 |refl (u:Nat):fP A u u
 |up {u p v:Nat}:iz A u p->fP A p v->fP A u v
def fP.le (c:fP A a b):a<=b:=by
 induction c with
 |refl=>exact aZ _
 |up d _ e=>have:=d.1;omega
def fP.trans (d:fP A a b) (c:fP A b f):fP A a f:=by
 induction d with
 |refl=>exact c
 |up e _ g=>exact .up e (g c)
def fP.walk (g:fP A b a):b=a\/eo A a b a:=by
 induction g with
 |refl=>exact .inl rfl
 |@up b f a c i d=>
  right;have h:=i.le;rcases d with rfl|d
  ·exact c.2.1
  rcases bi f a with e|e
  ·exact(c.2.1.mono h).trans e d
  obtain rfl:f=a:=U;exact c.2.1
def J1 (m:∀g h,A g h->A h g) (n:b<a) (k:eo A a b a):fP A b a:=by
 have:∀d,∀b,b<a->a-b<=d->eo A a b a->fP A b a:=by
  intro d
  induction d with
  |zero=>intro b e l;omega
  |succ d o=>
   intro b e l i;obtain⟨f,p,c⟩:=Hi e i;rcases bi f a with j|j
   ·refine .up c (o f j (by have:=c.1;omega) ?_);exact((c.2.1.symm m).mono U).trans e i
   obtain rfl:f=a:=U;exact .up c (.refl _)
 exact this (a-b) b n (aZ _) k
def HV (f:∀h i,A h i->A i h) (l:a<b):eo A a a b↔∃k,A b k/\fP A k a:=by
 constructor
 ·intro d;have j:=d.symm f;cases j with
  |one c=>exact⟨a,c,.refl _⟩
  |@step _ t _ c n r=>exact⟨t,c,J1 f n r⟩
 rintro⟨k,c,g⟩;have:∀{k a:Nat},fP A k a->a<b->(k<b->eo A k k b)->eo A a a b:=by
  intro k a d
  induction d with
  |refl=>intro m d;exact d m
  |@up u x y e w s=>
   intro q o;refine s q (λv=>?_);have p:u<b:=(by have:=e.1;omega);have c:=o p;have g:=e.fill;exact((g.symm f).mono (by have:=e.1;omega)).trans e.1 (c.mono (by have:=e.1;omega))
 exact this g l (λ_=>.one (f _ _ c))
end
end
section
def eu (bM:cF) (a b:Nat):Prop:=∃c:a<bM.length,(b:Int)∈bM[a]
def eu.lt {bM:cF} (f:fk bM) (d:eu bM a b):a<bM.length/\b<bM.length:=by obtain⟨c,e⟩:=d;have:=(f.asc a c).2 _ e;exact⟨c,U⟩
def eu.symm {bM:cF} (e:fk bM):∀a b,eu bM a b->eu bM b a:=λa b c=>by obtain⟨f,d⟩:=c.lt e;exact⟨d,e.sym a f b d c.2⟩
def eo.lt {bM:cF} (b:fk bM) {e c j:Nat} (a:eo (eu bM) e c j):c<bM.length/\j<bM.length:=by
 induction a with
 |one a=>exact a.lt b
 |step a _ _ d=>exact⟨(a.lt b).1,d.2⟩
inductive fC (R:Nat->Nat->Prop):Nat->Nat->Prop
 |refl (u:Nat):fC R u u
 |step {u p v:Nat}:R u p->fC R p v->fC R u v
def fC.trans (c:fC g a b) (d:fC g b f):fC g a f:=by
 induction c with
 |refl=>exact d
 |step c _ e=>exact .step c (e d)
def fC.mono {d:Nat->Nat->Prop} (f:∀a e,g a e->d a e) (c:fC g a b):fC d a b:=by
 induction c with
 |refl=>exact .refl _
 |step c _ h=>exact .step (f _ _ c) h
def fC.comp (i:∀a c d,g a c->g a d->c=d) (j:fC g a b) (e:fC g a f):fC g b f\/fC g f b:=by
 induction j with
 |refl=>exact .inl e
 |@step a c b h l n=>
  cases e with
  |refl=>exact .inr (.step h l)
  |@step _ d _ k m=>
   obtain rfl:=i _ _ _ h k;exact n m
section
variable (bM:cF)
def nE (j:Nat) (T:Nat->Prop) (b c:Nat):Prop:=
 (c<j/\iz (eu bM) b c)\/(c=j/\b<j/\(∀d,d<j->¬iz (eu bM) b d)/\∃a,T a/\a<j/\eu bM j a/\fP (eu bM) a b)
def en (dR:cQ) (b a:Nat):Prop:=dR[b]?=some (a:Int)
structure iY (j:Nat) (T:Nat->Prop) (dR k1:cQ):Prop where
 q4:dR.length=bM.length
 FC:k1.length=bM.length
 iS:∀u p,en dR u p↔(u<bM.length/\nE bM j T u p)
 none:∀(u:Nat) (x:Int),dR[u]?=some x->x=-1\/∃p:Nat,x=(p:Int)
 ww:∀u:Nat,k1[u]?=some (-1)↔dR[u]?=some (-1)
 wx:∀(u:Nat) (x:Int),k1[u]?=some x->x=-1\/∃a p:Nat,x=(a:Int)/\en dR u p/\fC (en dR) p a
variable {bM} {j:Nat} {T:Nat->Prop} {dR k1:cQ}
theorem nE.lt (d:nE bM j T b a):b<a/\a<=j:=by
 rcases d with⟨e,c⟩|⟨e,c,_⟩
 ·exact⟨c.1,U⟩
 omega
theorem iY.pO (d:iY bM j T dR k1) (f:fC (en dR) b a):b<=a/\(b=a\/a<=j):=by
 induction f with
 |refl=>exact⟨aZ _,.inl rfl⟩
 |@step b k a e i g=>
  have h:=((d.iS _ _).1 e).2.lt;rcases g.2 with c|c
  ·exact⟨U,.inr U⟩
  exact⟨U,.inr c⟩
theorem iY.CQ (c:iY bM j T dR k1) (f:fC (en dR) b a) (h:a<j):fP (eu bM) b a:=by
 induction f with
 |refl=>exact .refl _
 |@step b k a e g i=>
  have m:k<=a:=(c.pO g).1;rcases((c.iS _ _).1 e).2 with⟨_,d⟩|⟨l,_⟩
  ·exact .up d (i h)
  omega
theorem iY.IP (d:iY bM j T dR k1) (g:fC (en dR) a j) (p:a<j):∃b,fP (eu bM) a b/\b<j/\en dR b j:=by
 generalize i:j=l at g
 induction g with
 |refl=>omega
 |@step a h l c q k=>
  subst i;have o:=((d.iS _ _).1 c).2.lt;rcases bi h j with f|f
  ·obtain⟨b,m,n,bL⟩:=k f rfl;rcases((d.iS _ _).1 c).2 with⟨_,e⟩|⟨e,_⟩
   ·exact⟨b,.up e m,n,bL⟩
   omega
  obtain rfl:h=j:=U;exact⟨a,.refl _,U,c⟩
theorem Ct {j:Nat} (k:fP (eu bM) f a) (h:fP (eu bM) f b) (i:∀c,c<j->¬iz (eu bM) a c) (n:∀c,c<j->¬iz (eu bM) b c) (m:a<j) (q:b<j):a=b:=by
 induction k with
 |refl f=>
  cases h with
  |refl=>rfl
  |@up _ g _ d e=>exact absurd d (i g (by have:=e.le;omega))
 |@up f g a d e p=>
  cases h with
  |refl=>exact absurd d (n g (by have:=e.le;omega))
  |@up _ c _ l o=>
   obtain rfl:=d.uniq l;exact p o i m
theorem en.hl {dR:cQ}:∀d b c,en dR d b->en dR d c->b=c:=λd b c e a=>by unfold en at e a;rw[e] at a;simp at a;omega
theorem fC.tail (d:fC g a b) (f:a≠b):∃c,g a c/\fC g c b:=by
 cases d with
 |refl=>exact absurd rfl f
 |step e h=>exact⟨_,e,h⟩
theorem Nt (cv:fk bM) (ex:bM.length<=200) (e:iY bM j T dR k1) (d9:j<bM.length) (bl:eu bM j a):ac (w2 ((dR,(k1,())),(a:Int),(j:Int),())) (λg=>iY bM j (λc=>T c\/c=a) g.1.1 g.1.2.1):=by
 have d1:a<bM.length:=(bl.lt cv).2;unfold w2;simp only[ac.fh]
 let a0:cQ->cQ->Prop:=λF p=>
  (∀b,p[b]?=k1[b]?\/(p[b]?=some (j:Int)/\b<j/\fC (en dR) a b))/\p.length=bM.length/\
  ((F=dR/\(fC (en dR) a j\/j<=a))\/∃g,g<j/\dR[g]?=some (-1)/\fC (en dR) a g/\F=dR.set g (j:Int)/\p[g]?=some (j:Int))
 refine ac.mono (P:=λn=>a0 n.1.1 n.1.2.1) ?_ ?_
 ·refine ac.loop (λu=>(u.1=-1/\a0 u.2.1.1 u.2.1.2.1)\/∃c:Nat,u.1=(c:Int)/\c<bM.length/\fC (en dR) a c/\u.2.1.1=dR/\u.2.1.2.1.length=bM.length/\∀b,u.2.1.2.1[b]?=k1[b]?\/(u.2.1.2.1[b]?=some (j:Int)/\b<j/\b<c/\fC (en dR) a b)) (λu=>if u.1=-1 then 0 else 1000-u.1.toNat) (.inr ⟨a,rfl,d1,.refl _,rfl,e.FC,λb=>.inl rfl⟩) ?_;rintro⟨fa,⟨F,p,_⟩,_⟩ ci;simp only at ci;simp only[ac.fh,ac.eL,ac.al];rcases ci with⟨rfl,cs⟩|⟨c,rfl,d0,h,rfl,W,G⟩
  ·exact⟨λX=>by simp at X,λ_=>cs⟩
  refine⟨λ_=>⟨λk=>?_,λk=>?_⟩,λX=>by simp at X⟩
  ·have k:c<j:=(by simpa using k);simp only[ac.sB,ac.rV,ac.FW,ac.al,dk];have B:c<p.length:=U;have a4:p[c]?=k1[c]?:=by
    rcases G c with d|⟨_,_,em,_⟩
    ·exact d
    omega
   refine⟨⟨U,B⟩,B,⟨U,B⟩,B,λx=>?_,λx=>?_⟩
   ·have x:p[c]=-1:=(by simpa using x);have J:F[c]?=some (-1):=(e.ww c).1 (by rw[<-a4,bB B,x]);have ce:c<F.length:=(by rw[e.q4];exact d0);refine⟨⟨U,ce⟩,ce,.inl ⟨x,?_,?_,.inr ⟨c,k,J,h,rfl,?_⟩⟩,?_⟩
    ·intro b;rcases qb b c with l|l|l
     ·rw[ki U];exact(G b).imp id (λ⟨v,z,_,C⟩=>⟨v,z,C⟩)
     ·subst l;rw[jT B];exact .inr ⟨rfl,k,h⟩
     rw[ki U];exact(G b).imp id (λ⟨v,z,_,C⟩=>⟨v,z,C⟩)
    ·simp[W]
    ·rw[jT B]
    rw[ak x,ag U];omega
   have x:p[c]≠-1:=(by simpa using x);rcases e.wx c p[c] (by rw[<-a4,bB B]) with d|⟨v,f,M,L,N⟩
   ·exact absurd d x
   have eq:=((e.iS _ _).1 L).2.lt;have d5:=e.pO N;have dl:v<bM.length:=by rcases d5.2 with d|d<;>omega
   refine⟨.inr ⟨v,M,dl,h.trans (.step L N),trivial,by simp[W],λb=>?_⟩,?_⟩
   ·rcases qb b c with l|l|l
    ·rw[ki U];exact(G b).imp id (λ⟨S,z,C,V⟩=>⟨S,z,U,V⟩)
    ·subst l;rw[jT B];exact .inr ⟨rfl,k,U,h⟩
    rw[ki U];exact(G b).imp id (λ⟨S,z,C,V⟩=>⟨S,z,U,V⟩)
   rw[ag x,ag U,M];simp only[dk];omega
  have k:j<=c:=(by simpa using k);refine⟨λb=>(G b).imp id (λ⟨v,z,_,C⟩=>⟨v,z,C⟩),W,.inl ⟨rfl,?_⟩⟩;rcases(e.pO h).2 with d|d
  ·exact .inr U
  obtain rfl:c=j:=U;exact .inl h
 rintro⟨⟨F,p,_⟩,_⟩ ⟨I,f2,a3⟩;simp only at I f2 a3;simp only[ac.al];rcases a3 with⟨rfl,h⟩|⟨g,O,J,h,rfl,ds⟩
 ·have d4:∀b f,b<bM.length->(nE bM j (λc=>T c\/c=a) b f↔nE bM j T b f):=by
   intro b f _;constructor
   ·rintro(q|⟨rfl,r,A,c,s,k,D,t⟩)
    ·exact .inl q
    rcases s with s|rfl
    ·exact .inr ⟨rfl,r,A,c,s,k,D,t⟩
    rcases h with h|h
    ·obtain⟨d8,ap,av,bL⟩:=e.IP h k;have H:=((e.iS _ _).1 bL).2;rcases H with⟨o,_⟩|H
     ·omega
     obtain rfl:=Ct ap t H.2.2.1 A av r;exact .inr H
    omega
   rintro(q|⟨rfl,r,A,c,s,k,D,t⟩)
   ·exact .inl q
   exact .inr ⟨rfl,r,A,c,.inl s,k,D,t⟩
  refine⟨e.q4,f2,λb f=>(e.iS b f).trans (and_congr_right λl=>(d4 b f l).symm),e.none,λb=>?_,λb K m=>?_⟩
  ·rcases I b with d|⟨d,l,w⟩
   ·rw[d];exact e.ww b
   rw[d];constructor
   ·intro o;simp at o
   intro o;rcases h with h|h
   ·obtain⟨d8,ap,av,bL⟩:=e.IP h (by have:=(e.pO w).1;omega);have t:=e.CQ w l;have d7:∀n,n<j->¬iz (eu bM) b n:=λn Z i=>by
     have:en F b n:=(e.iS b n).2 ⟨U,.inl ⟨Z,i⟩⟩;unfold en at this;rw[o] at this;simp at this
    rcases((e.iS _ _).1 bL).2 with⟨el,_⟩|H
    ·omega
    obtain rfl:=Ct ap t H.2.2.1 d7 av l;unfold en at bL;rw[o] at bL;simp at bL
   have:=(e.pO w).1;omega
  rcases I b with d|⟨d,l,w⟩
  ·rw[d] at m;exact e.wx b K m
  rw[d] at m;cases m;right;have bs:a<j:=(by have:=(e.pO w).1;omega);rcases h with h|h
  ·rcases w.comp en.hl h with E|E
   ·obtain⟨f,d2,d3⟩:=E.tail U;exact⟨j,f,rfl,d2,d3⟩
   have:=(e.pO E).1;omega
  omega
 have am:g<dR.length:=by
  rcases bi g dR.length with o|o
  ·exact o
  rw[hG o] at J;cases J
 have an:∀f,¬en dR g f:=λf i=>(by unfold en at i;rw[J] at i;simp at i);have ad:∀n,n<j->¬iz (eu bM) g n:=λn Z i=>an n ((e.iS g n).2 ⟨by have:=e.q4;omega,.inl ⟨Z,i⟩⟩);have R:∀b f,en dR b f->en (dR.set g (j:Int)) b f:=λb f i=>(by have Y:b≠g:=λd=>an f (d▸i);unfold en at i|-;rw[ki U];exact i);have Q:en (dR.set g (j:Int)) g j:=(by unfold en;rw[jT am]);have bs:a<j:=(by have:=(e.pO h).1;omega);have co:∀b,fC (en dR) a b->b≠g->∃f,en dR b f/\fC (en dR) f g:=λb l Y=>by
  rcases l.comp en.hl h with E|E
  ·exact E.tail Y
  obtain⟨f,i,_⟩:=E.tail (Ne.symm Y);exact absurd i (an f)
 refine⟨by simp[e.q4],f2,λb f=>?_,λb K m=>?_,λb=>?_,λb K m=>?_⟩
 ·by_cases y:b=g
  ·subst y;have d:en (dR.set b (j:Int)) b f↔f=j:=⟨λi=>en.hl _ _ _ i Q,λd=>d▸Q⟩;rw[d];constructor
   ·rintro rfl;exact⟨by have:=e.q4;omega,.inr ⟨rfl,O,ad,a,.inr rfl,bs,bl,e.CQ h O⟩⟩
   rintro⟨_,⟨q,r⟩|⟨q,_⟩⟩
   ·exact absurd r (ad f q)
   exact q
  have d:en (dR.set g (j:Int)) b f↔en dR b f:=(by unfold en;rw[ki U]);rw[d,e.iS];refine and_congr_right λ_=>?_;constructor
  ·rintro(q|⟨rfl,r,A,c,s,k,D,t⟩)
   ·exact .inl q
   exact .inr ⟨rfl,r,A,c,.inl s,k,D,t⟩
  rintro(q|⟨rfl,r,A,c,s,k,D,t⟩)
  ·exact .inl q
  rcases s with s|rfl
  ·exact .inr ⟨rfl,r,A,c,s,k,D,t⟩
  exact absurd (Ct t (e.CQ h O) A ad r O) y
 ·by_cases y:b=g
  ·subst y;rw[jT am] at m;cases m;exact .inr ⟨j,rfl⟩
  rw[ki U] at m;exact e.none b K m
 ·by_cases y:b=g
  ·subst y;rw[ds,jT am]
  rw[ki U];rcases I b with d|⟨d,l,w⟩
  ·rw[d];exact e.ww b
  rw[d];constructor
  ·intro o;simp at o
  intro o;obtain⟨f,i,_⟩:=co b w y;unfold en at i;rw[o] at i;simp at i
 rcases I b with d|⟨d,l,w⟩
 ·rw[d] at m;rcases e.wx b K m with d|⟨v,f,M,L,N⟩
  ·exact .inl d
  exact .inr ⟨v,f,M,R _ _ L,N.mono R⟩
 rw[d] at m;cases m;right;by_cases y:b=g
 ·subst y;exact⟨j,j,rfl,Q,.refl _⟩
 obtain⟨f,i,d6⟩:=co b w y;exact⟨j,f,rfl,R _ _ i,(d6.mono R).trans (.step Q (.refl _))⟩
end
end
def Ib (c a:Nat) (g:cQ) (e:Int) (i:g=List.replicate a e++List.replicate (c-a) 0) (j:a<c):g.set a e=List.replicate (a+1) e++List.replicate (c-(a+1)) 0:=by
 subst i;apply hY;intro b;rw[List.getElem?_set];simp only[mD,nA,List.getElem?_append,lB];split
 ·rename_i h;subst h;rw[ak U,ak U];split<;>first|rfl|omega
 by_cases d:b<a
 ·rw[ak d,ak d,ak (U:b<a+1),ak (U:b<a+1)]
 rw[ag d,ag (U:¬b<a+1)];by_cases f:b-a<c-a
 ·rw[ak f,ak (U:b-(a+1)<c-(a+1))]
 rw[ag f,ag (U:¬b-(a+1)<c-(a+1))]
def OH (a:Nat) (k:a<=200):w3 ((a:Int),())=some ((List.replicate a (-1),(List.replicate a (-1),())),()):=by
 rw[<-ac.eq_iff];unfold w3;have j:fi=4294967296:=rfl;simp only[ac.fh,ac.Bx,ac.al,dk];refine⟨⟨U,U,U⟩,⟨U,U,U⟩,?_⟩;refine ac.for (i0:=0) a (λb i=>i.1.1=List.replicate b (-1)++List.replicate (a-b) 0/\i.1.2.1=List.replicate b (-1)++List.replicate (a-b) 0) rfl ⟨ab,ab⟩ (eU _) ?_ ?_
 ·rintro b ⟨⟨g,e,_⟩,_⟩ _ h ⟨c,d⟩;simp only at c d;have l:g.length=a:=(by rw[c];simp;omega);have m:e.length=a:=(by rw[d];simp;omega);simp only[ac.eL,ac.fh,ac.al,ac.sB,ac.rV,ac.FW,dk];exact⟨λ_=>⟨⟨U,U⟩,U,⟨U,U⟩,U,jH U,Ib a b g _ c h,Ib a b e _ d h⟩,λf=>by simp at f;omega⟩
 rintro⟨⟨g,e,_⟩,_⟩ ⟨c,d⟩;simp only at c d;simp only[ac.eL,ac.al];refine⟨λf=>by simp at f,λ_=>?_⟩;rw[c,d];simp
structure zB (bM:cF) (dR:cQ):Prop where
 len:dR.length=bM.length
 iS:∀u p:Nat,dR[u]?=some (p:Int)↔iz (eu bM) u p
 none:∀(u:Nat) (x:Int),dR[u]?=some x->x=-1\/∃p:Nat,x=(p:Int)
def SE (c:cF):iY c 0 (λ_=>False) (List.replicate c.length (-1)) (List.replicate c.length (-1)):=by
 refine⟨ab,ab,λd f=>?_,λd e a=>?_,λd=>Iff.rfl,λd e a=>?_⟩
 ·constructor
  ·intro b;unfold en at b;rw[lB] at b;split at b
   ·simp at b
   cases b
  rintro⟨_,⟨b,_⟩|⟨_,b,_⟩⟩<;>omega
 ·rw[lB] at a;split at a
  ·cases a;exact .inl rfl
  cases a
 rw[lB] at a;split at a
 ·cases a;exact .inl rfl
 cases a
def iY.IG {g:Nat->Prop} (c:iY j a h i d) (k:∀e f,e<j.length->(nE j a h e f↔nE j b g e f)):iY j b g i d:=
 ⟨c.q4,c.FC,λe f=>(c.iS e f).trans (and_congr_right λl=>k e f l),c.none,c.ww,c.wx⟩
def QZ (s:fk j) (r:∀d,eu j a d->h d) (n c:Nat):nE j a h n c↔nE j (a+1) (λ_=>False) n c:=by
 have e:=eu.symm s;constructor
 ·rintro(⟨p,b⟩|⟨rfl,b,q,d,_,v,u,t⟩)
  ·exact .inl ⟨U,b⟩
  refine .inl ⟨U,b,?_,λz x C f=>?_⟩
  ·have g:eo (eu j) c d c:=.one (e _ _ u);rcases t.walk with rfl|f
   ·exact g
   exact((f.symm e).mono U).trans v g
  obtain⟨A,D,y⟩:=Hi x f;exact q A U y
 rintro(⟨p,b⟩|⟨_,_,_,_,o,_⟩)
 ·rcases bi c a with l|l
  ·exact .inl ⟨l,b⟩
  obtain rfl:c=a:=U;obtain⟨m,i,k⟩:=(HV e b.1).1 b.fill;exact .inr ⟨rfl,b.1,λz B w=>by have:=w.uniq b;omega,m,r m i,by have:=k.le;have:=b.1;omega,i,k⟩
 exact o.elim
def Jt (a:cF) (v:∀B∈a,B.length<4611686018427387904) (w:a.length<=200) (j:fk a):ac (w1 ((a,()),())) (λy=>y.2.1=0/\zB a y.1):=by
 classical
 unfold w1;have A:jr a=0:=(by unfold jr;rw[ag U,ak j]);simp only[ac.fh,C2 a v,A,ac.al,ac.eL];refine⟨λc=>by simp at c,λ_=>?_⟩;rw[OH _ w];simp only[ac.al];refine ac.mono (P:=λd=>iY a a.length (λ_=>False) d.1.1 d.1.2.1) ?_ ?_
 ·refine ac.for (i0:=0) a.length (λb m=>iY a b (λ_=>False) m.1.1 m.1.2.1) rfl (SE a) (eU _) ?_ ?_
  ·rintro b ⟨⟨p,s,_⟩,_⟩ _ k e;simp only at e;simp only[ac.eL,ac.fh,ac.kC,ac.al];refine⟨λ_=>⟨k,?_⟩,λg=>by simp at g;omega⟩;have D:=v _ (dm k);refine ac.mono (P:=λd=>iY a (b+1) (λ_=>False) d.1.1 d.1.2.1) ?_ ?_
   ·refine ac.for (i0:=0) a[b].length (λi m=>iY a b (λh=>(h:Int)∈a[b].take i) m.1.1 m.1.2.1) rfl (by simpa using e) (eU _) ?_ ?_
    ·rintro i ⟨⟨x,t,_⟩,_⟩ _ o f;simp only at f;simp only[ac.eL,ac.fh,ac.kC,ac.al];refine⟨λ_=>⟨o,?_⟩,λg=>by simp at g;omega⟩;have E:=(j.asc b k).2 _ (dm o);obtain⟨h,r⟩:∃h:Nat,a[b][i]=(h:Int):=⟨a[b][i].toNat,U⟩;have q:eu a b h:=⟨k,r▸dm o⟩;rw[r];refine(Nt j w f k q).mono ?_;rintro⟨⟨F,C,_⟩,_⟩ u;simp only at u;refine⟨jH U,u.IG (λn d _=>?_)⟩;have z:(λl:Nat=>(l:Int)∈a[b].take i\/l=h)=(λl:Nat=>(l:Int)∈a[b].take (i+1)):=by
      funext l;rw[<-th o,r];apply propext;simp only[eR,fe];constructor<;>rintro(c|c)<;>first|exact .inl c|(right;omega)
     rw[z]
    rintro⟨⟨x,t,_⟩,_⟩ f;simp only at f;simp only[ac.eL,ac.al];refine⟨λg=>by simp at g,λ_=>?_⟩;rw[tI] at f;exact f.IG (λn d _=>QZ j (λh q=>q.2) n d)
   rintro⟨⟨x,t,_⟩,_⟩ f;exact⟨jH U,f⟩
  rintro⟨⟨p,s,_⟩,_⟩ e;simp only[ac.eL,ac.al];exact⟨λg=>by simp at g,λ_=>e⟩
 rintro⟨⟨p,s,_⟩,_⟩ e;simp only at e;refine⟨trivial,e.q4,λn d=>?_,e.none⟩;rw[show(p[n]?=some (d:Int))=en p n d from rfl,e.iS];constructor
 ·rintro⟨_,⟨_,c⟩|⟨_,_,_,_,c,_⟩⟩
  ·exact c
  exact c.elim
 intro c;have:=c.2.1.lt j;exact⟨this.1,.inl ⟨this.2,c⟩⟩
section
def ix (c:cF) (a b:Nat):Prop:=b=a\/(a<b/\eo (eu c) a a b)
open Classical in
def kO (c:cF) (b:Nat):cQ:=((List.range (b+1)).filter λa=>decide (ix c a b)).map λ(a:Nat)=>(a:Int)
open Classical in
def i7 (c:cF) (b d:Nat):cQ:=((List.range d).filter λa=>decide (b<=a/\ix c b a)).map λ(a:Nat)=>(a:Int)
def bE (a:cF) (b:Nat):cQ:=i7 a b a.length
def FZ:(a:Int)∈kO j b↔a<=b/\ix j a b:=by
 unfold kO;simp only[b0,gu,hg,decide_eq_true_eq];constructor
 ·rintro⟨d,⟨e,c⟩,f⟩;have:d=a:=U;subst this;exact⟨U,c⟩
 exactλ⟨e,c⟩=>⟨a,⟨U,c⟩,rfl⟩
def Ok (b:c∈kO j a):∃d:Nat,c=(d:Int)/\d<=a/\ix j d a:=by unfold kO at b;simp only[b0,gu,hg,decide_eq_true_eq] at b;obtain⟨e,⟨h,f⟩,g⟩:=b;exact⟨e,g.symm,U,f⟩
def ix.le (c:ix j b a):b<=a:=by rcases c with c|c<;>omega
def Bz:(a:Int)∈bE j b↔a<j.length/\ix j b a:=by
 unfold bE i7;simp only[b0,gu,hg,decide_eq_true_eq];constructor
 ·rintro⟨e,⟨d,c⟩,f⟩;have:e=a:=U;subst this;exact⟨d,c.2⟩
 exactλ⟨d,c⟩=>⟨a,⟨d,c.le,c⟩,rfl⟩
def CE (c:Nat->Bool) (b:Nat):(((List.range b).filter c).map λ(a:Nat)=>(a:Int)).Pairwise (· < ·):=by rw[tH];refine List.Pairwise.filter _ ?_;exact List.pairwise_lt_range.imp (λd=>by omega)
def RT (a:cF) (b:Nat):(kO a b).Pairwise (· < ·):=CE _ _
def Ej (a:cF) (b:Nat):(bE a b).Pairwise (· < ·):=CE _ _
def RU (b:cF) (a:Nat):(kO b a).length<=a+1:=by unfold kO;rw[gN];exact bj (jk _ _) ab
def Ei (b:cF) (c a:Nat):(i7 b c a).length<=a:=by unfold i7;rw[gN];exact bj (jk _ _) ab
structure tJ (bM:cF) (i:Nat) (N:Nat->Prop) (m:cM):Prop where
 len:m.length=i+1
 top:m[i]?=some true
 iff:∀u,u<i->(m[u]?=some true↔∃k,N k/\fP (eu bM) k u)
def KW (am:fk j) (z:zB j d) (cs:a<j.length) (cv:j.length<=200) {G:cM} (r:tJ j a h G) {k0:Nat} (a0:k0<j.length):ac (loop (σ:=ch) (ρ:=cq) (λ(D,v,_)=>
 Option.bind (α:=cq⊕b4) (bif decide (D>=(0:Int))==true then bif decide (D<(a:Int))==true then(bG v.length D).bind λbl=>
 (bt v bl λad=>some ad).bind λce=>
  bif !ce then
 some (.inl (v,())) else
 some (.inr (.inr (v,()))) else some (.inr (.inr (v,()))) else some (.inr (.inr (v,())))) λbs=>match bs with
 |.inl (Q,_)=>(
 (bG Q.length D).bind λZ=>
 (bt Q Z λ_=>some (Q.set Z true)).bind λco=>
 (aQ d D).bind λci=>
 some (.inl (ci,co,())))
 |.inr R=>some R) ((k0:Int),G,())) (λR=>tJ j a (λn=>h n\/n=k0) R.1):=by
 refine ac.loop (λi=>i.2.1.length=a+1/\i.2.1[a]?=some true/\(i.1=-1\/∃g:Nat,i.1=(g:Int)/\g<j.length/\fP (eu j) k0 g)/\(∀b,b<a->i.2.1[b]?=some true->G[b]?=some true\/fP (eu j) k0 b)/\(∀b,b<a->G[b]?=some true->i.2.1[b]?=some true)/\(∀b,b<a->fP (eu j) k0 b->i.2.1[b]?=some true\/∃g:Nat,i.1=(g:Int)/\fP (eu j) g b)/\(∀b e,b<a->e<a->i.2.1[b]?=some true->iz (eu j) b e->i.2.1[e]?=some true\/i.1=(e:Int))) (λi=>if i.1=-1 then 0 else 1000-i.1.toNat) ?_ ?_
 ·refine⟨r.len,r.top,.inr ⟨k0,rfl,a0,.refl _⟩,λb _ c=>.inl c,λb _ c=>c,λb _ c=>.inr ⟨k0,rfl,c⟩,λb e f l k F=>.inl ?_⟩;obtain⟨n,C,t⟩:=(r.iff b f).1 k;exact(r.iff e l).2 ⟨n,C,t.trans (.up F (.refl _))⟩
 rintro⟨d0,o,_⟩ ⟨N,O,M,I,J,y,K⟩;simp only at N O M I J y K;have H:(∀b,b<a->fP (eu j) k0 b->o[b]?=some true)->tJ j a (λn=>h n\/n=k0) o:=λan=>by
  refine⟨N,O,λb f=>⟨λk=>?_,?_⟩⟩
  ·rcases I b f k with c|c
   ·obtain⟨n,C,t⟩:=(r.iff b f).1 c;exact⟨n,.inl C,t⟩
   exact⟨k0,.inr rfl,c⟩
  rintro⟨n,C|rfl,t⟩
  ·exact J b f ((r.iff b f).2 ⟨n,C,t⟩)
  exact an b f t
 simp only[ac.fh,ac.eL,ac.al,ac.sB,ac.rV];rcases M with rfl|⟨g,rfl,av,S⟩
 ·refine⟨λL=>by simp at L,λ_=>H λb f p=>?_⟩;rcases y b f p with c|⟨g,M,_⟩
  ·exact c
  omega
 refine⟨λ_=>⟨λB=>?_,λB=>?_⟩,λL=>by simp at L⟩
 ·have B:g<a:=(by simpa using B);have s:g<o.length:=U;simp only[dk];refine⟨⟨U,s⟩,s,λdl=>?_,λY=>?_⟩
  ·have V:g<d.length:=(by rw[z.len];exact av);refine⟨⟨U,s⟩,s,?_⟩;rw[ac.kC];refine⟨V,?_⟩;have E:d[g]?=some d[g]:=bB V;have X:d[g]=-1\/∃e:Nat,d[g]=(e:Int)/\iz (eu j) g e:=by
    rcases z.none g _ E with m|⟨e,m⟩
    ·exact .inl m
    exact .inr ⟨e,m,(z.iS g e).1 (by rw[E,m])⟩
   have q:∀b,(o.set g true)[b]?=some true↔b=g\/o[b]?=some true:=λb=>by
    by_cases f:b=g
    ·subst f;simp[jT s]
    rw[ki U];simp[f]
   refine⟨⟨by simp[N],by rw[ki U];exact O,?_,λb f k=>?_,λb f k=>(q b).2 (.inr (J b f k)),λb f p=>?_,λb e f l k F=>?_⟩,?_⟩
   ·rcases X with m|⟨e,m,l⟩
    ·exact .inl m
    exact .inr ⟨e,m,(l.2.1.lt am).2,S.trans (.up l (.refl _))⟩
   ·rcases(q b).1 k with rfl|k
    ·exact .inr S
    exact I b f k
   ·rcases y b f p with c|⟨u,T,A⟩
    ·exact .inl ((q b).2 (.inr c))
    obtain rfl:u=g:=U;cases A with
    |refl=>exact .inl ((q _).2 (.inl rfl))
    |@up _ e _ l P=>
     have:=(z.iS u e).2 l;rw[E] at this;exact .inr ⟨e,dF this,P⟩
   ·rcases(q b).1 k with rfl|k
    ·have:=(z.iS b e).2 F;rw[E] at this;exact .inr (dF this)
    rcases K b e f l k F with c|c
    ·exact .inl ((q e).2 (.inr c))
    exact .inl ((q e).2 (.inl U))
   rcases X with m|⟨e,m,l⟩
   ·rw[ak m,ag U];omega
   have:=l.1;rw[m,ag U,ag U];omega
  have W:o[g]?=some true:=(by rw[bB s];simp at Y;rw[Y]);refine H λb f p=>?_;rcases y b f p with c|⟨u,T,A⟩
  ·exact c
  obtain rfl:u=g:=U;have:∀{w x:Nat},fP (eu j) w x->x<a->o[w]?=some true->o[x]?=some true:=by
   intro w x c
   induction c with
   |refl=>exactλ_ c=>c
   |@up w e x l P a4=>
    intro ap a3;have ds:=P.le;refine a4 ap ?_;rcases K w e (by have:=l.1;omega) U a3 l with c|c
    ·exact c
    have:e=u:=U;rw[this];exact W
  exact this A f W
 have B:a<=g:=(by simpa using B);refine H λb f p=>?_;rcases y b f p with c|⟨u,T,A⟩
 ·exact c
 have:=A.le;omega
open Classical in
def RV (t:fk j) (B:∀F∈j,F.length<4611686018427387904) (z:zB j d) (n:a<j.length) (C:j.length<=200):xY ((j,()),d,(a:Int),())=some (kO j a,()):=by
 rw[<-ac.eq_iff];unfold xY;have I:fi=4294967296:=rfl;have D:=eu.symm t;have E:IntKind.i64.wrap ((a:Int)+1)=((a+1:Nat):Int):=jH U;simp only[E,ac.fh,ac.Bx,ac.sB,ac.rV,ac.al,dk,ac.kC,nA];refine⟨⟨U,U,U⟩,⟨U,U⟩,U,n,?_⟩;have H:=B _ (dm n);refine ac.mono (P:=λG=>tJ j a (λb=>eu j a b) G.1) ?_ ?_
 ·refine ac.for (i0:=0) j[a].length (λb r=>tJ j a (λe=>(e:Int)∈j[a].take b) r.1) rfl ?_ (eU _) ?_ ?_
  ·refine⟨ab,by rw[jT ab],λh q=>?_⟩;rw[ki U,lB];simp
  ·rintro b ⟨m,_⟩ _ g f;simp only at f;simp only[ac.eL,ac.fh,ac.kC];refine⟨λ_=>⟨g,?_⟩,λi=>by simp at i;omega⟩;have K:=(t.asc a n).2 _ (dm g);obtain⟨s,l⟩:∃s:Nat,j[a][b]=(s:Int):=⟨j[a][b].toNat,U⟩;rw[l];refine(KW t z n C f (k0:=s) U).mono ?_;rintro⟨x,_⟩ A;simp only[ac.al];refine⟨jH U,?_⟩;have o:(λe:Nat=>(e:Int)∈j[a].take b\/e=s)=(λe:Nat=>(e:Int)∈j[a].take (b+1)):=by
    funext e;rw[<-th g,l];apply propext;simp only[eR,fe];constructor<;>rintro(c|c)<;>first|exact .inl c|(right;omega)
   rw[<-o];exact A
  rintro⟨m,_⟩ f;simp only[ac.eL,ac.al];refine⟨λi=>by simp at i,λ_=>?_⟩;rw[tI] at f;have o:(λe:Nat=>(e:Int)∈j[a])=(λe=>eu j a e):=(by funext e;exact propext ⟨λc=>⟨n,c⟩,λc=>c.2⟩);rw[<-o];exact f
 rintro⟨m,_⟩ f;simp only at f;simp only[ac.fh,ac.al];have u:∀h,(q:h<m.length)->(m[h]=true↔ix j h a):=by
  intro h q;have v:=f.len;rcases bi h a with c|c
  ·have:=f.iff h c;rw[bB q,bw] at this;rw[this,<-HV D c];constructor
   ·exactλl=>.inr ⟨c,l⟩
   rintro(o|⟨_,l⟩)
   ·omega
   exact l
  obtain rfl:h=a:=U;have:=f.top;rw[bB q,bw] at this;rw[this];exact⟨λ_=>.inl rfl,λ_=>rfl⟩
 have v:=f.len;refine ac.for (i0:=0) m.length (λb r=>r.1=m/\r.2.1=((List.range b).filter λw=>decide (ix j w a)).map λ(w:Nat)=>(w:Int)) rfl ⟨rfl,rfl⟩ (eU _) ?_ ?_
 ·rintro b ⟨x,y,_⟩ _ g ⟨rfl,k⟩;simp only at k g v u;have J:y.length<=b:=by
   rw[k,gN];exact bj (jk _ _) ab
  simp only[ac.eL,ac.fh,ac.sB,ac.rV,ac.al,ac.FK,dk];refine⟨λ_=>⟨⟨U,g⟩,g,λp=>⟨?_,jH U,trivial,?_⟩,λp=>⟨jH U,trivial,?_⟩⟩,λi=>by simp at i;omega⟩
  ·simp;omega
  ·have:=(u b g).1 p;rw[p6,nx,hf,<-k];simp[this]
  have:¬ix j b a:=λc=>(by rw[(u b g).2 c] at p;cases p);rw[p6,nx,hf,<-k];simp[this]
 rintro⟨x,y,_⟩ ⟨rfl,k⟩;simp only at k;simp only[ac.eL,ac.al];refine⟨λi=>by simp at i,λ_=>?_⟩;rw[k];unfold kO;rw[v]
open Classical in
def K1 (c:cF) (b a:Nat):i7 c b (a+1)=i7 c b a++(if b<=a/\ix c b a then[(a:Int)] else[]):=by
 unfold i7;rw[p6,nx,hf];congr 1;by_cases d:b<=a/\ix c b a
 ·rw[ak d];simp[d]
 rw[ag d];simp only[kV,List.filter_nil];rw[ag (by simpa using d)];rfl
theorem Jc (r:fk j) (s:∀C∈j,C.length<4611686018427387904) (u:j.length<=200):xX ((j,()),())=some ((List.range j.length).map (bE j),0,()):=by
 classical
 rw[<-ac.eq_iff];unfold xX;have K:fi=4294967296:=rfl;simp only[ac.fh];refine(Jt j s u r).mono ?_;rintro⟨N,H,_⟩ ⟨t,n⟩;simp only at t n;subst t;have B:=n.len;simp only[ac.eL,ac.fh,ac.al,ac.Bx,dk];refine⟨λc=>by simp at c,λ_=>⟨⟨U,U,U⟩,?_⟩⟩;rw[B];refine ac.for (i0:=0) j.length (λb m=>m.1=(List.range j.length).map λa=>i7 j a b) rfl ?_ (eU _) ?_ ?_
 ·apply hY;intro l;simp[i7,lB];split<;>simp_all
 ·rintro b ⟨E,_⟩ _ x i;simp only at i;simp only[ac.eL,ac.fh,RV r s n x u,ac.al];refine⟨λ_=>?_,λe=>by simp at e;omega⟩;have M:=RU j b;refine ac.mono (P:=λF=>F.1=(List.range j.length).map λa=>i7 j a (b+1)) ?_ ?_
  ·refine ac.for (i0:=0) (kO j b).length (λl m=>m.2.1=kO j b/\m.1=(List.range j.length).map λa=>i7 j a b++(if(a:Int)∈(kO j b).take l then[(b:Int)] else[])) rfl ?_ (eU _) ?_ ?_
   ·refine⟨rfl,?_⟩;rw[i];simp
   ·rintro l ⟨h,G,_⟩ _ g ⟨k,d⟩;simp only at k d;subst k;obtain⟨a,o,J,_⟩:=Ok (dm g);have L:h.length=j.length:=(by rw[d];simp);have f:a<h.length:=U;have A:(a:Int)∉(kO j b).take l:=λp=>by
     obtain⟨D,y,z⟩:=g3.1 p;simp only[eB] at y;simp only[List.getElem_take] at z;have:=(hx.1 (RT j b)) D l U g U;omega
    have v:h[a]=i7 j a b:=(by have:h[a]?=some (i7 j a b):=(by rw[d,gq,we U];simp only[hj];rw[ag A,p1]);rw[bB f] at this;exact dF this);have I:=Ei j a b;simp only[ac.eL,ac.fh,ac.sB,ac.rV,ac.al,ac.FK,dk,o,oM,Bool.and_self,ac.ob];refine⟨λ_=>⟨⟨U,g⟩,g,⟨U,f⟩,f,?_,⟨U,f⟩,λ_=>⟨f,f,jH U,trivial,?_⟩,λc=>by cases c⟩,λe=>by simp at e;omega⟩
    ·rw[v];simp;omega
    apply hY;intro q;rw[List.getElem?_set];by_cases w:a=q
    ·subst w;rw[ak rfl,ak f,gq,we (U:a<j.length)];simp only[hj];rw[v,ak];rw[<-th g,o];simp
    rw[ag w,d,gq,gq];rcases bi q j.length with c|c
    ·rw[we c];simp only[hj];congr 2;rw[<-th g,o];have:((q:Int)=(a:Int))↔False:=iff_of_false U id;simp only[eR,fe,this,or_false]
    rw[hG (by simpa using c)];rfl
   rintro⟨h,G,_⟩ ⟨k,d⟩;simp only at k d;subst k;simp only[ac.eL,ac.al];refine⟨λe=>by simp at e,λ_=>?_⟩;rw[d,tI];refine hu λa _=>?_;rw[K1];congr 1;by_cases c:a<=b/\ix j a b
   ·rw[ak c,ak (FZ.2 c)]
   rw[ag c,ag (λp=>c (FZ.1 p))]
  rintro⟨h,_⟩ d;exact⟨jH U,d⟩
 rintro⟨E,_⟩ i;simp only at i;simp only[ac.eL,ac.al];refine⟨λe=>by simp at e,λ_=>?_⟩;rw[i];rfl
end
def oY (a:cD) (b c:Nat):Bool:=(a.getD b []).getD c false
def n2 (c:cD) (b d:Nat):cQ:=((List.range d).filter λa=>b !=a&&(oY c b a||oY c a b)).map λ(a:Nat)=>(a:Int)
def h9 (a:cD):cF:=(List.range a.length).map λb=>n2 a b a.length
def NS (b:cD) (c a:Nat):(n2 b c a).length<=a:=by unfold n2;rw[gN];exact bj (jk _ _) ab
def BA {e:cD}:(a:Int)∈n2 e b f↔a<f/\b≠a/\(oY e b a||oY e a b)=true:=by
 unfold n2;simp only[b0,gu,hg,a2,bne_iff_ne];constructor
 ·rintro⟨g,⟨c,d⟩,h⟩;have:g=a:=U;subst this;exact⟨c,d⟩
 exactλ⟨c,d⟩=>⟨a,⟨c,d⟩,rfl⟩
def E2 (c:cD):fk (h9 c):=by
 have h:(h9 c).length=c.length:=(by simp[h9]);have d:∀a,(b:a<(h9 c).length)->(h9 c)[a]=n2 c a c.length:=λa b=>(by simp[h9]);refine⟨λa b=>?_,λa b=>?_,λa b j i e=>?_⟩
 ·rw[d a b,h];refine⟨CE _ _,λm f=>?_⟩;unfold n2 at f;simp only[b0,gu,hg] at f;obtain⟨k,⟨l,_⟩,rfl⟩:=f;omega
 ·rw[d a b,BA];exactλg=>g.2.1 rfl
 rw[d a b,BA] at e;rw[d j i,BA];exact⟨U,e.2.1.symm,by rw[Bool.or_comm];exact e.2.2⟩
def MC (a:cD):(h9 a).length=a.length:=by simp[h9]
def MD (c:cD):∀b∈h9 c,b.length<=c.length:=by intro b a;unfold h9 at a;simp only[b0,hg] at a;obtain⟨d,_,rfl⟩:=a;exact NS _ _ _
def mX {b:List e} {c:e} (d:b[a]?=some c):aQ b (a:Int)=some c:=by unfold aQ;rw[ak U,dk,d]
def JU (c:cF):fk c↔∀a,(g:a<c.length)->c[a].Pairwise (· < ·)/\∀b,(e:b<c[a].length)->(0<=c[a][b]/\c[a][b]<c.length)/\c[a][b]≠(a:Int)/\(a:Int)∈c.getD (c[a][b]).toNat []:=by
 constructor
 ·rintro⟨j,l,m⟩ a d;refine⟨(j a d).1,λb e=>?_⟩;have k:=(j a d).2 _ (dm e);refine⟨k,λf=>l a d (f▸dm e),?_⟩;have h:(c[a][b]).toNat<c.length:=U;have:=m a d _ h (by rw[Int.toNat_of_nonneg k.1];exact dm e);rw[List.getD,bB h];exact this
 intro g;refine⟨λa d=>⟨(g a d).1,λp n=>?_⟩,λa d i=>?_,λa d o h i=>?_⟩
 ·obtain⟨b,e,rfl⟩:=g3.1 n;exact((g a d).2 b e).1
 ·obtain⟨b,e,f⟩:=g3.1 i;exact((g a d).2 b e).2.1 f
 obtain⟨b,e,f⟩:=g3.1 i;have:=((g a d).2 b e).2.2;rw[f,dk,List.getD,bB h] at this;exact this
def TW:d.Nodup↔∀a,(c:a<d.length)->d[a]∉d.take a:=by
 unfold List.Nodup;rw[hx];constructor
 ·intro c a e h;obtain⟨j,g,b⟩:=g3.1 h;simp only[eB] at g;simp only[List.getElem_take] at b;exact c j a U e U b
 intro c a i e f k b;exact c i f (g3.2 ⟨a,by simp;omega,by simp[b]⟩)
section
def aR {α:Type} (b:Nat) (a:Nat->α):List α:=(List.range b).map a
def e0 {α:Type} (b:Nat->α) (c:Nat) (d:α):Nat->α:=λa=>if a=c then d else b a
section
variable {α A B:Type}
def mq (c:Nat->α) (a:Nat) (b:α):e0 c a b a=b:=ak rfl
def mn (c:Nat->α) (e:α) (d:a≠b):e0 c b e a=c a:=ag d
def dP (a:Nat) (b:Nat->α):(aR a b).length=a:=by simp[aR]
def qP (c:Nat) (d:Nat->α) (b:Nat):(aR c d)[b]?=if b<c then some (d b) else none:=by
 unfold aR;rw[gq];rcases bi b c with a|a
 ·rw[we a,ak a];rfl
 rw[hG (by simpa using a),ag U];rfl
def su {c:Nat->α} (d:a<b):(aR b c)[a]?=some (c a):=by rw[qP,ak d]
def jv {c:Nat->α} (d:a<(aR b c).length):(aR b c)[a]=c a:=by simp[aR]
def fm {c d:Nat->α} (e:∀b,b<a->c b=d b):aR a c=aR a d:=hu λb f=>e b (hg.1 f)
def Ms (a:Nat->α):aR 0 a=[]:=rfl
def uY (b:Nat) (a:Nat->α):aR (b+1) a=aR b a++[a b]:=by simp[aR,p6]
def nU (a:Nat) (b:α):List.replicate a b=aR a λ_=>b:=by apply hY;intro c;rw[lB,qP]
def jw {d:Nat->α} (f:α):(aR b d).set a f=aR b (e0 d a f):=by
 apply hY;intro e;rw[List.getElem?_set,qP,qP,dP];unfold e0;by_cases c:a=e
 ·subst c;simp
 have h:¬e=a:=λg=>c (Eq.symm g);simp only[ag c,ag h]
def Mq (c:List α) (d:Nat->α) (e:∀a,(b:a<c.length)->c[a]=d a):c=aR c.length d:=by
 apply hY;intro a;rw[qP];split
 ·rename_i b;rw[bB b,e a b]
 rename_i b;exact hG U
def Mr (d b:Nat) (c:Nat->α) (f:b<=d):(aR d c).take b=aR b c:=by
 apply hY;intro e;rw[rI,qP,qP];by_cases a:e<b
 ·rw[ak a,ak a,ak U]
 rw[ag a,ag a]
def gR (c:a<b):bG b (a:Int)=some a:=by unfold bG;rw[ak ⟨U,by simpa using c⟩];simp
def nI {d:List α} {c:α} {b:α->Option A} (e:d[a]?=some c):bt d a b=b c:=by unfold bt;rw[e]
def iD {c:Nat->α} {d:α->Option A} (e:a<b):bt (aR b c) a d=d (c a):=nI (su e)
def E8 {c:Nat->α} (d:a<b):aQ (aR b c) (a:Int)=some (c a):=mX (su d)
def eE (b:a<=4294967296):dd a=some ():=ak b
def iN (b:a<=4294967296):fj (a:Int) (a:Int)=some a:=by unfold fj;rw[ak ⟨U,U,by have:fi=4294967296:=rfl;omega⟩];simp
def vl:gW (a:Int)=some a:=by unfold gW;rw[ak U];simp
def yz (c:b<=a/\a<=f):g9 b a f=some ():=ak c
def Re (b:0<a):y2 a=some ():=rfl
def dH (a b:Int):(a==b)=decide (a=b):=by by_cases c:a=b<;>simp[c]
def dN (a b:Int):(a !=b)=!decide (a=b):=by by_cases c:a=b<;>simp[c]
def aB [Decidable o] (a:o):decide o=true:=decide_eq_true a
def az [Decidable o] (a:¬o):decide o=false:=decide_eq_false a
def bT {a c:α} (b:s=true):(bif s then a else c)=a:=by rw[b];rfl
def bR {c a:α} (b:s=false):(bif s then c else a)=a:=by rw[b];rfl
def bo [Decidable o] {a b:α}:(bif decide o then a else b)=if o then a else b:=by by_cases c:o<;>simp[c]
def Ek [Decidable o] {a b:α}:(bif decide o==true then a else b)=if o then a else b:=by by_cases c:o<;>simp[c]
def Tx (b:a<9223372036854775808):IntKind.i64.wrap (a:Int)=(a:Int):=wrap64 U U
def I3 (c:1<=a) (b:a<9223372036854775808):IntKind.i64.wrap ((a:Int)-1)=((a-1:Nat):Int):=by rw[wrap64 U U];omega
def rr (b:a+1<9223372036854775808):IntKind.i64.wrap ((a:Int)+1)=((a+1:Nat):Int):=by rw[wrap64 U U];omega
end
def ac.of_eq {α:Type} {c:Option α} {a:α} {b:α->Prop} (d:c=some a) (e:b a):ac c b:=⟨a,d,e⟩
def ac.a1 {α A:Type} {c:Option α} {b:α->Option A} {P:α->Prop} {a:A->Prop} (e:ac c P) (f:∀d,P d->ac (b d) a):ac (c.bind b) a:=
 ac.fh.2 (e.mono f)
def ac.ite {α:Type} [Decidable o] {c d:Option α} {b:α->Prop} (e:o->ac c b) (f:¬o->ac d b):ac (if o then c else d) b:=by
 by_cases a:o
 ·rw[ak a];exact e a
 rw[ag a];exact f a
def aq {α A:Type} {c:Option α} {a:α->Option A} {y:α} {b:Option A} (d:c=some y) (e:a y=b):c.bind a=b:=by rw[d];exact e
def vd {j:Type} {g:Int×e->Option ((Int×e)⊕j)} {h:j} {i:e} (d:Nat) (b:Nat->e) (f:Nat) (o:c=(f:Int)) (q:i=b f) (n:f<=d) (p:∀a,f<=a->a<d->g ((a:Int),b a)=some (.inl (((a+1:Nat):Int),b (a+1)))) (m:g ((d:Int),b d)=some (.inr h)):loop g (c,i)=some h:=by
 subst o q;rw[<-ac.eq_iff];refine ac.for d (λa r=>r=b a) rfl rfl n ?_ ?_
 ·rintro a _ k l rfl;rw[p a k l];exact ac.al.2 ⟨rfl,rfl⟩
 rintro _ rfl;rw[m];exact ac.al.2 rfl
def NZ {g:Int×Unit->Option cb} (e:Nat) (c:Nat->Prop) (k:∀a,a<e->g ((a:Int),())=some (open Classical in if c a then .inl (((a+1:Nat):Int),()) else .inr (.inr ((a:Int),())))) (j:g ((e:Int),())=some (.inr (.inl ()))):ac (loop g (0,())) (λl=>match l with|.inl _=>∀a,a<e->c a|.inr m=>0<=m.1/\¬∀a,a<e->c a):=by
 classical
 refine ac.for e (λa _=>∀b,b<a->c b) (i0:=0) rfl (λb d=>by omega) (eU _) ?_ ?_
 ·rintro a ⟨⟩ _ i h;rw[k a i];by_cases f:c a
  ·rw[ak f];refine ac.al.2 ⟨rfl,λb n=>?_⟩;rcases bi b a with d|d
   ·exact h b d
   obtain rfl:b=a:=U;exact f
  rw[ag f];exact ac.al.2 ⟨by show(0:Int)<=(a:Int);omega,λd=>f (d a i)⟩
 rintro⟨⟩ h;rw[j];exact ac.al.2 h
end
def CX (a:Int):IntKind.u32.wrap a=a %4294967296:=by unfold IntKind.wrap;exact ag (ab:¬(false&&decide (a %4294967296>=(2147483648:Int)))=true)
def vW (a:Int):IntKind.u64.wrap a=a %18446744073709551616:=by unfold IntKind.wrap;exact ag (ab:¬(false&&decide (a %18446744073709551616>=(9223372036854775808:Int)))=true)
def rq (a:0<=c) (b:c<18446744073709551616):IntKind.u64.wrap c=c:=by rw[vW];omega
def CY (a:0<=c) (b:c<4294967296):IntKind.u32.wrap c=c:=by rw[CX];omega
def mO (b:a<18446744073709551616):(BitVec.ofInt 64 (a:Int)).toNat=a:=by rw[BitVec.ofInt_natCast,BitVec.toNat_ofNat];exact Nat.mod_eq_of_lt b
def wH (b:a<4294967296):(BitVec.ofInt 32 (a:Int)).toNat=a:=by rw[BitVec.ofInt_natCast,BitVec.toNat_ofNat];exact Nat.mod_eq_of_lt b
def DA (d:a<18446744073709551616) (e:b<18446744073709551616):bD .u64 (a:Int) (b:Int)=((a&&&b:Nat):Int):=by have c:((BitVec.ofInt 64 (a:Int))&&&(BitVec.ofInt 64 (b:Int))).toNat=a&&&b:=(by rw[BitVec.toNat_and,mO d,mO e]);have f:a&&&b<=a:=Nat.and_le_left;unfold bD;rw[show IntKind.u64.bits=64 from rfl,c];exact rq U U
def Dz (d:a<4294967296) (e:b<4294967296):bD .u32 (a:Int) (b:Int)=((a&&&b:Nat):Int):=by have c:((BitVec.ofInt 32 (a:Int))&&&(BitVec.ofInt 32 (b:Int))).toNat=a&&&b:=(by rw[BitVec.toNat_and,wH d,wH e]);have f:a&&&b<=a:=Nat.and_le_left;unfold bD;rw[show IntKind.u32.bits=32 from rfl,c];exact CY U U
def QR (c:a<18446744073709551616) (d:b<18446744073709551616):dQ .u64 (a:Int) (b:Int)=((a|||b:Nat):Int):=by have e:(BitVec.ofInt 64 (a:Int)|||BitVec.ofInt 64 (b:Int)).toNat=a|||b:=(by rw[BitVec.toNat_or,mO c,mO d]);have f:a|||b<2^64:=Nat.or_lt_two_pow c d;unfold dQ;rw[show IntKind.u64.bits=64 from rfl,e];exact rq U U
def QQ (c:a<4294967296) (d:b<4294967296):dQ .u32 (a:Int) (b:Int)=((a|||b:Nat):Int):=by have e:(BitVec.ofInt 32 (a:Int)|||BitVec.ofInt 32 (b:Int)).toNat=a|||b:=(by rw[BitVec.toNat_or,wH c,wH d]);have f:a|||b<2^32:=Nat.or_lt_two_pow c d;unfold dQ;rw[show IntKind.u32.bits=32 from rfl,e];exact CY U U
def oT (a:Nat) (d:0<=c) (i:c<18446744073709551616) (b:Int) (f:a<=64) (g:b=2^a-1):bD .u64 c b=c %2^a:=by obtain⟨k,rfl⟩:=dX d;have h:0<2^a:=eT a;have e:b=((2^a-1:Nat):Int):=(by rw[g,Int.natCast_sub h];simp);have j:2^a<=2^64:=nD aa f;rw[e,DA U U,Nat.and_two_pow_sub_one_eq_mod];simp
def and_low32 (a:0<=c) (b:c<18446744073709551616):bD .u64 c 4294967295=c %4294967296:=oT 32 a b _ aa aa
def ll (a:Int):df .u64 a 32=some (a/4294967296):=by have:df .u64 a 32=some (a.fdiv 4294967296):=rfl;rw[this,v9 _ aa]
def kS (a:0<=c) (b:c<=64):fN .u64 n c=some ((n*2^c.toNat) %18446744073709551616):=by unfold fN;rw[ak a,vW,show IntKind.u64.bits=64 from rfl,ga U]
def pJ (a:0<=c) (b:c<=64):df .u64 n c=some (n/2^c.toNat):=by unfold df;rw[ak a,show IntKind.u64.bits=64 from rfl,ga U,v9 _ (by exact Int.pow_nonneg aa)]
def DD (c:Nat) (d:a<2^c):a|||(b*2^c)=a+b*2^c:=by rw[Nat.add_comm,Nat.or_comm,hL,Nat.two_pow_add_eq_or_of_lt d]
def j5 (a:Nat) (e:0<=c) (f:c<2^a) (g:0<=n) (l:c<18446744073709551616) (m:n<18446744073709551616) (i:n %2^a=0):dQ .u64 c n=c+n:=by obtain⟨d,rfl⟩:=dX e;obtain⟨b,rfl⟩:=dX g;have k:d<2^a:=(by have:((d:Nat):Int)<((2^a:Nat):Int):=(by simpa using f);omega);have j:b %2^a=0:=(by have:((b %2^a:Nat):Int)=0:=(by simpa using i);omega);rw[QR U U];have h:b=(b/2^a)*2^a:=(by have:=p8 b (2^a);rw[j,hL] at this;omega);rw[h,DD a k];simp
def ar (a:Nat):Nat:=if a=0 then 0 else a.log2+1
def bN {k:Nat}:ar a<=k↔a<2^k:=by
 unfold ar;split
 ·rename_i b;subst b;simp;exact eT k
 rename_i b;rw[<-Nat.log2_lt b];omega
def kv:a<ar b↔2^a<=b:=by rw[<-Nat.not_le,bN,Nat.not_lt]
def e9 (a b:Nat) (c:a<=b):2^a<=2^b:=nD aa c
def s2 (a b:Nat) (c:a<b):2^a<2^b:=Nat.pow_lt_pow_right aa c
def j0 (c:b<=a):ar b<=ar a:=by rw[bN];have:=bN.1 (aZ (ar a));omega
def oZ {k l:Nat} (c:ar a<=k) (d:ar b<=l):ar (a*b)<=k+l:=by rw[bN,c4];exact Nat.mul_lt_mul'' (bN.1 c) (bN.1 d)
def Gg {c:Nat} (d:b<=c*a) (e:f<a):b+f<=(c+1)*a:=by rw[fy,fQ];omega
def Ks (c:Nat) (d:ar a<=c) (e:ar b<=c):ar (a+b)<=c+1:=by rw[bN] at*;rw[hy];omega
def Rg {e:Nat} (d:f*2^b=a*2^e) (h:0<f):0<a:=by
 rcases gG a with c|c
 ·rw[c,Nat.zero_mul] at d;have:=eT b;rcases Nat.mul_eq_zero.1 d with g|g<;>omega
 exact c
def lN {m:Nat} (a:0<m):0<ar m:=kv.2 a
def Ku:ar 0=0:=rfl
def D5 {k:Nat} (b:2^k<=a) (c:a<2^(k+1)):ar a=k+1:=by have:=kv.2 b;have:=bN.2 c;omega
def jZ (b:0<a):2^(ar a-1)<=a/\a<2^ar a:=
 ⟨kv.1 (by have:=lN b;omega),bN.1 (aZ _)⟩
def g7 (d:0<a) (b:Nat):ar (a*2^b)=ar a+b:=by
 obtain⟨e,f⟩:=jZ d;have h:=eT b;have i:=lN d;obtain⟨c,g⟩:∃c,ar a=c+1:=⟨ar a-1,U⟩;rw[g] at e f|-;rw[(U:c+1+b=(c+b)+1)];refine D5 ?_ ?_
 ·rw[c4];exact dD _ (by simpa using e)
 rw[(U:c+b+1=(c+1)+b),c4];exact tN f h
def tY (b a:Nat):ar (b/2^a)=ar b-a:=by
 have c:=eT a;apply Nat.le_antisymm
 ·rw[bN,wg c,<-c4];exact bN.1 U
 rcases bi a (ar b) with d|d
 ·have:ar b-a-1<ar (b/2^a):=by
   rw[kv,p9 c,<-c4];exact kv.1 U
  omega
 omega
def pN (c:Bool) (b:Int) (d:Bool) (a:Int):Bool:=
 if a=1 then c else if a=2 then !c else if a=3 then false else decide (0<b)||(decide (b=0)&&d)
def iG (b a:Nat) (c:Bool):Int:=
 if 2*(b %2^a)<2^a then-1 else if 2^a<2*(b %2^a) then 1 else if c then 1 else 0
def eI (e:Bool) (a b:Nat) (c:Bool) (d:Int):Nat:=
 if a %2^b=0/\c=false then a/2^b
 else if pN e (iG a b c) (decide (a/2^b %2=1)) d then a/2^b+1 else a/2^b
def Ox (b a c:Nat):b %2^(a+c)=(b/2^a %2^c)*2^a+b %2^a:=by rw[c4,Nat.mod_mul,Nat.add_comm,hL]
def fX (b:Bool) (a:Int):Int:=if b then 9223372036854775808+a else a
def l9 (a:Bool) (b:Int):Int:=
 if b=3\/(b=1/\a=false)\/(b=2/\a=true) then fX a 9218868437227405311 else fX a 9218868437227405312
def eO (a:Bool) (b:Nat) (c d:Int):Int:=
 if b<4503599627370496 then fX a b
 else if b=9007199254740992 then if c+1+1075>=2047 then l9 a d else fX a ((c+1+1075)*4503599627370496)
 else if c+1075>=2047 then l9 a d else fX a ((c+1075)*4503599627370496+(b-4503599627370496))
def bd (b:Nat) (a:Int):Int:=max (a+ar b-1-52) (-1074)
def gL (d:Bool) (b:Nat) (a:Int) (e:Bool) (c:Int):Int:=
 if bd b a<=a then eO d (b*2^(a-bd b a).toNat) (bd b a) c
 else eO d (eI d b (bd b a-a).toNat e c) (bd b a) c
def k9:Nat->Nat->Nat
 |0,_=>0
 |f+1,a=>if(2*k9 f (a/4)+1)*(2*k9 f (a/4)+1)<=a then 2*k9 f (a/4)+1 else 2*k9 f (a/4)
def bF (a:Nat):Nat:=k9 (ar a) a
theorem Nl:∀{b n:Nat},n<4^b->k9 b n*k9 b n<=n/\n<(k9 b n+1)*(k9 b n+1):=by
 intro b
 induction b with
 |zero=>intro n c;simp at c;subst c;simp[k9]
 |succ b i=>
  intro n c;obtain⟨g,h⟩:=i (n:=n/4) (by rw[hy] at c;omega);unfold k9;generalize k9 b (n/4)=a at g h|-;have aj:(2*a+1)*(2*a+1)=4*(a*a)+4*a+1:=(by grind);have e:(2*a+1+1)*(2*a+1+1)=4*((a+1)*(a+1)):=(by grind);have f:2*a*(2*a)=4*(a*a):=(by grind);split
  ·rename_i d;exact⟨d,by rw[e];omega⟩
  rename_i d;exact⟨by rw[f];omega,U⟩
def qX (a:Nat):bF a*bF a<=a/\a<(bF a+1)*(bF a+1):=by refine Nl ?_;have b:a<2^ar a:=bN.1 (aZ _);exact fA b (Nat.pow_le_pow_left aa _)
def CF (d:a*a<=f) (e:f<(b+1)*(b+1)):a<=b:=by
 rcases bi b a with c|c
 ·have:=gO (show b+1<=a from c) (show b+1<=a from c);omega
 exact c
def Nn (c:a*a<=b) (d:b<(a+1)*(a+1)):bF b=a:=by obtain⟨e,f⟩:=qX b;exact Nat.le_antisymm (CF e d) (CF c f)
abbrev mv:=Bool×cQ×Unit
abbrev Je:=Bool×mv×Int×Unit
def eA (a:mv):Int:=if a.1 then-af a.2.1 else af a.2.1
def aC (a:Int):mv:=(decide (a<0),bx a.natAbs,())
def lr (a:Int):eA (aC a)=a:=by unfold eA aC;simp only[iI,decide_eq_true_eq];split<;>omega
def ju (a:Int):aK (aC a).2.1:=h7 _
def x9 (a:Int):dq (aC a).2.1:=k6 _
def g8 (a:Int):af (aC a).2.1=a.natAbs:=iI _
def uT:(aC c).2.1=[]↔c=0:=by show bx c.natAbs=[]↔_;rw[AB];omega
def Ez {neg:Bool} (b:aK d) (f:dq d):(neg&&decide (d≠[]),d,())=aC (eA (neg,d,())):=by
 have h:=dW b;have c:d=bx (af d).toNat:=dq.eq b f;have e:d=[]↔af d=0:=⟨λa=>by rw[a];rfl,dq.zero b f⟩;unfold aC eA;cases neg
 ·simp only[Bool.false_and,Bool.false_eq_true,if_false];rw[show decide (af d<0)=false from decide_eq_false U,(U:(af d).natAbs=(af d).toNat),<-c]
 simp only[Bool.true_and,if_true];rw[(U:(-af d).natAbs=(af d).toNat),<-c];congr 1;rw[decide_eq_decide];constructor
 ·intro a;have:=mt e.2 a;omega
 intro a g;have:=e.1 g;omega
def zr:Nat->Nat->Nat
 |0,_=>0
 |f+1,a=>if a %2=0 then zr f (a/2)+1 else 0
def a9 (a:Nat):Nat:=if a=0 then 0 else zr (ar a) a
def S8:∀{a n:Nat},0<n->n<2^a->∃b,n=(2*b+1)*2^zr a n:=by
 intro a
 induction a with
 |zero=>intro n e c;simp at c;omega
 |succ a g=>
  intro n e c;unfold zr;split
  ·rename_i d;obtain⟨b,f⟩:=g (n:=n/2) U (by rw[hy] at c;omega);refine⟨b,?_⟩;rw[hy,<-gb,<-f];omega
  rename_i d;exact⟨n/2,by simp;omega⟩
def pM {n:Nat} (b:0<n):∃a,n=(2*a+1)*2^a9 n:=by unfold a9;rw[ag U];exact S8 b (bN.1 (aZ _))
def Gu:∀{s t a b:Nat},(2*a+1)*2^s=(2*b+1)*2^t->s=t/\a=b
 |0,0,a,b,c=>by simp at c;omega
 |0,t+1,a,b,c=>by rw[hy,<-gb] at c;simp at c;omega
 |s+1,0,a,b,c=>by rw[hy,<-gb] at c;simp at c;omega
 |s+1,t+1,a,b,c=>by rw[hy,<-gb,hy,<-gb] at c;obtain⟨e,d⟩:=Gu (s:=s) (t:=t) (a:=a) (b:=b) U;exact⟨U,d⟩
def tj {a:Nat} (c:b=(2*a+1)*2^f):a9 b=f:=by have g:=eT f;have d:0<b:=(by rw[c];exact Nat.mul_pos U g);obtain⟨h,e⟩:=pM d;exact(Gu (e.symm.trans c)).1
def vS (e:0<b) (c:Nat):a9 (b*2^c)=a9 b+c:=by obtain⟨d,f⟩:=pM e;refine tj (a:=d) ?_;rw[c4,<-gb,<-f]
def S9 {n:Nat} (a:0<n):n/2^a9 n %2=1:=by
 obtain⟨d,b⟩:=pM a;have c:=eT (a9 n)
 conv=>lhs;lhs;lhs;rw[b]
 rw[Nat.mul_div_cancel _ c];omega
def ov {n:Nat} (b:0<n):a9 n<ar n:=by
 obtain⟨a,c⟩:=pM b;rw[kv]
 conv=>rhs;rw[c]
 have:=dD (2^a9 n) (U:1<=2*a+1);omega
theorem pu {n k:Nat} (f:0<n):k<=a9 n↔n %2^k=0:=by
 obtain⟨e,b⟩:=pM f;constructor
 ·intro l;obtain⟨a,c⟩:∃a,a9 n=a+k:=⟨a9 n-k,U⟩;rw[c,c4,<-gb] at b
  conv=>lhs;rw[b]
  exact Nat.mul_mod_left _ _
 intro i;rcases bi (a9 n) k with d|d
 ·exfalso;obtain⟨a,c⟩:∃a,k=a9 n+(a+1):=⟨k-a9 n-1,U⟩;have g:n=n/2^k*2^k:=(by have:=p8 n (2^k);rw[i,hL] at this;omega);have j:=eT (a9 n);have h:(2*e+1)*2^a9 n=(2*(n/2^k*2^a))*2^a9 n:=by
   rw[<-b]
   conv=>lhs;rw[g,c,c4,hy]
   grind
  have:=Nat.eq_of_mul_eq_mul_right j h;omega
 exact d
def mg (b a:Int):Int:=b*2^a.toNat/2^(-a).toNat
def eg (a b:Int):cK:=
 if a=0 then some 0
 else if b+a9 a.natAbs< -65536\/65536<b+ar a.natAbs then none
 else some (mg a (b+65536))
def bf:cK->Je
 |none=>(true,(false,[],()),0,())
 |some a=>if a=0 then(false,(false,[],()),0,()) else(false,aC (a/2^a9 a.natAbs),(a9 a.natAbs:Int)-65536,())
def e4 (a:Int):Prop:=ar a.natAbs<=131072
instance(a:Int):Decidable (e4 a):=inferInstanceAs (Decidable (_<=_))
def ky (a:Int):cK:=if e4 a then some a else none
def e2 (b:cK):Prop:=∀a,b=some a->e4 a
def ez (b:Int) (a:Nat):(b*2^a).natAbs=b.natAbs*2^a:=by rw[jO,Int.natAbs_pow];rfl
def uR (b:c.natAbs %2^a=0):c/2^a*2^a=c:=by have d:((2^a:Nat):Int)∣c:=Int.ofNat_dvd_left.2 (Nat.dvd_of_mod_eq_zero b);rw[(ab:(2:Int)^a=((2^a:Nat):Int))];exact Int.ediv_mul_cancel d
def vk (b:c.natAbs %2^a=0):(c/2^a).natAbs=c.natAbs/2^a:=by
 have d:=uR b;have e:=eT a
 conv=>rhs;rw[<-d,ez,Nat.mul_div_cancel _ e]
def mh (b:Int) (a:Nat):mg b a=b*2^a:=by unfold mg;rw[dk,(U:(-(a:Int)).toNat=0)];simp
def td (b:Int) (a:Nat):mg b (-(a:Int))=b/2^a:=by unfold mg;rw[Int.neg_neg,dk,(U:(-(a:Int)).toNat=0)];simp
def aL (a:Int):Int:=a/2^a9 a.natAbs
def a6 (a:Int):Int:=(a9 a.natAbs:Int)-65536
def lg (a:Int):aL a*2^a9 a.natAbs=a:=by
 rcases gG a.natAbs with b|b
 ·obtain rfl:a=0:=U;rfl
 exact uR ((pu b).1 (aZ _))
def Gq (a:c≠0):(aL c).natAbs=c.natAbs/2^a9 c.natAbs:=vk ((pu U).1 (aZ _))
def ho {v:Int} (b:v≠0):aL v≠0:=λa=>by have:=lg v;rw[a] at this;simp at this;exact b this.symm
def Gt (b:c≠0):a9 (aL c).natAbs=0:=by rw[Gq b];have:=S9 (n:=c.natAbs) U;exact tj (a:=c.natAbs/2^a9 c.natAbs/2) (by rw[Nat.pow_zero];omega)
def yO (a:c≠0):ar (aL c).natAbs=ar c.natAbs-a9 c.natAbs:=by rw[Gq a,tY]
def l7 {v:Int}:aL v<0↔v<0:=by
 have d:=lg v;have c:(0:Int)<2^a9 v.natAbs:=jQ aa;constructor
 ·intro b;have:=Int.mul_neg_of_neg_of_pos b c;omega
 intro b;rcases hq (aL v) 0 with a|a
 ·exact a
 have:=kh a (ec c);omega
def EB (a:c≠0):bf (some c)=(false,aC (aL c),a6 c,()):=by show(if c=0 then _ else _)=_;rw[ag a];rfl
def sO {v:Int} (h:-65536<=c) (a:v=n*2^(c+65536).toNat):eg n c=ky v:=by
 obtain⟨d,f⟩:∃d:Nat,c+65536=d:=⟨(c+65536).toNat,U⟩;rw[f,dk] at a;unfold eg ky;by_cases e:n=0
 ·subst e;simp only[iX] at a;subst a;rw[ak rfl,ak (show e4 0 from(by decide:ar 0<=131072))]
 rw[ag e];have g:ar v.natAbs=ar n.natAbs+d:=(by rw[a,ez,g7 U]);by_cases b:e4 v
 ·rw[ak b];unfold e4 at b;rw[ag U,f,mh,a]
 rw[ag b];unfold e4 at b;rw[ak U]
def Oq (a:e4 c):eg (aL c) (a6 c)=some c:=by
 by_cases b:c=0
 ·subst b;rfl
 rw[sO (v:=c) (by unfold a6;omega) (by
  conv=>lhs;rw[<-lg c]
  unfold a6;rw[(U:((a9 c.natAbs:Int)-65536+65536).toNat=a9 c.natAbs)])]
 exact ak a
def BD (f a:Int):e2 (eg f a):=by
 intro i b;unfold eg at b;split at b
 ·cases b;show ar 0<=_;decide
 split at b
 ·cases b
 rename_i g h;cases b;unfold e4;rcases Int.le_total 0 (a+65536) with e|e
 ·obtain⟨c,d⟩:∃c:Nat,a+65536=c:=⟨(a+65536).toNat,U⟩;rw[d,mh,ez,g7 U];omega
 obtain⟨c,d⟩:∃c:Nat,a+65536=-(c:Int):=⟨(-(a+65536)).toNat,U⟩;rw[d,td,vk ((pu U).1 U),tY];omega
def KM (b:Int):e2 (ky b):=by
 intro c a;unfold ky at a;split at a
 ·cases a;assumption
 cases a
def s6 (a b c:Nat) (f:Bool) (d e:Int):Int:=gL f (b*2^a/c) (d-a) (decide (b*2^a %c≠0)) e
def Ch {k:Nat} (h:0<a) (e:0<b) (i:58+ar b<=ar a+k):58<=ar (a*2^k/b):=by
 rcases bi 57 (ar (a*2^k/b)) with c|c
 ·exact c
 exfalso;have d:a*2^k/b<2^57:=bN.1 c;rw[wg e] at d;have f:=(jZ e).2;have g:a*2^k<2^57*2^ar b:=fA d (h0 _ (Nat.le_of_lt f));rw[<-c4,<-bN,g7 h] at g;omega
def s8 (a b:Nat) (c d:Int):Int:=gL false (bF (b*2^a)) ((c-a)/2) (decide (bF (b*2^a)*bF (b*2^a)≠b*2^a)) d
def Bd (e:115<=ar a):58<=ar (bF a):=by
 rcases bi 57 (ar (bF a)) with b|b
 ·exact b
 exfalso;have c:bF a+1<=2^57:=bN.1 b;have f:=(qX a).2;have g:=gO c c;have d:a<2^114:=(by have:2^57*2^57=2^114:=(by rw[<-c4]);omega);have:=bN.2 d;omega
def kM (a b:Int):Int:=if a=0 then 0 else gL (decide (a<0)) (aL a).natAbs (a6 a) false b
def kJ (a b:Nat):Nat:=59+ar b-ar a
def j6 (a b c:Int):Int:=s6 (kJ (aL a).natAbs (aL b).natAbs) (aL a).natAbs (aL b).natAbs (decide (a<0)!=decide (b<0)) (a6 a-a6 b) c
def hb (a:Nat) (b:Int):Nat:=if(b-((118-ar a:Nat):Int)) %2=0 then 118-ar a else 118-ar a+1
def jc (a b:Int):Int:=s8 (hb (aL a).natAbs (a6 a)) (aL a).natAbs (a6 a) b
def dc {b:List e} (c:a<b.length):aQ b (a:Int)=some b[a]:=mX (bB c)
def Tu (b:a<9223372036854775808):ax (a:Int)=(a:Int):=wrap64 U U
def bh {x:Int} (a:-9223372036854775808<=x) (b:x<=9223372036854775807):ax x=x:=wrap64 a b
def bA (b:a<9223372036854775807):a7 (a:Int)=((a+1:Nat):Int):=by unfold a7;rw[wrap64 U U];simp
def bV {x:Int} (a:0<=x) (b:x<18446744073709551616):aH x=x:=rq a b
def jh {x:Int} (a:0<=x) (b:x<4294967296):bL x=x:=CY a b
def oz (a:Int):bL a=a %4294967296:=CX a
def ke (a:Int):aH a=a %18446744073709551616:=vW a
def n4 (a:0<=c) (b:c<18446744073709551616):bL (bD IntKind.u64 c 4294967295)=c %4294967296:=by rw[and_low32 a b,jh U U]
def a5 (a:List e):aw a=(a.length:Int):=rfl
def zl {b:List e} (f:a<=b.length):((some (0:Nat)).bind λc=>(gW (a:Int)).bind λd=>(g9 c d b.length).map λ_=>(c,d))=some (0,a):=by rw[aP,vl,aP,yz ⟨eU _,f⟩];rfl
def lq (o:aK d) (q:d.length<=100000000):fL (d,())=some (fO d,()):=by
 unfold fL;refine ac.eq_iff.1 ?_;refine ac.a1 (P:=λp=>∃a:Nat,p.1=(a:Int)/\a<=d.length/\(∀b,a<=b->(j:b<d.length)->d[b]=0)/\dq (d.take a)) ?_ ?_
 ·refine ac.loop (λh=>∃a:Nat,h.1=(a:Int)/\a<=d.length/\(∀b,a<=b->(j:b<d.length)->d[b]=0)) (λh=>h.1.toNat) ⟨d.length,rfl,aZ _,λb c f=>by omega⟩ ?_;rintro⟨_,_⟩ ⟨a,rfl,c,f⟩;rcases a with _|a
  ·refine ac.al.2 ⟨0,rfl,eU _,f,λk e=>by simp at e⟩
  have aj:ax (((a+1:Nat):Int)-1)=(a:Int):=(by rw[bh U U];omega);have l:decide (((a+1:Nat):Int)>0)=true:=aB U;simp only[aj,l,beq_self_eq_true,cond_true,dc (show a<d.length from c),aP];by_cases g:d[a]=0
  ·rw[dH,aB g];refine ac.al.2 ⟨⟨a,rfl,U,λb j n=>?_⟩,?_⟩
   ·rcases bi a b with i|i
    ·exact f b i n
    obtain rfl:b=a:=U;exact g
   show(a:Int).toNat<((a+1:Nat):Int).toNat;omega
  rw[dH,az g];refine ac.al.2 ⟨a+1,rfl,c,f,λk e=>?_⟩;rw[jV,bB c] at e;have e:(d.take a++[d[a]]).getLast?=some k:=e;rw[List.getLast?_concat] at e;cases e;exact g
 rintro⟨_,_⟩ ⟨a,rfl,c,f,m⟩;refine ac.of_eq (aq (zl c) rfl) ?_;show(List.drop 0 (List.take a d),())=_;rw[mB,IB o c f m]
def uc (c:d.length<=100000000):qA (d,())=some (d,()):=by
 unfold qA;have a:((dd (([]:cQ).length+d.length)).bind λ_=>some (([]++d:cQ),()))=some (d,()):=(by rw[eE (by simp;omega)];rfl);show lf d.length (some ([],())) ((dd (([]:cQ).length+d.length)).bind λ_=>some (([]++d:cQ),()))=_;unfold lf;rw[a];split
 ·rename_i b;obtain rfl:=kU b;rw[ak rfl]
 rfl
def n3:(aw d==0)=decide (d=[]):=by rw[dH,decide_eq_decide];show((d.length:Nat):Int)=0↔_;rw[<-List.length_eq_zero_iff];omega
def rX (b:aK d) (f:d.length<=100000000):iH (s,d,())=some (aC (eA (s,d,())),()):=by
 unfold iH;refine aq (lq b f) ?_;have c:=Ez (neg:=s) (Iy d) (Iz d);have e:eA (s,fO d,())=eA (s,d,()):=(by unfold eA;simp only[IA b]);rw[<-e,<-c];simp only[n3,bo];split
 ·rename_i a;simp[a]
 rename_i a;simp[a]
def LC (b:c.natAbs<2^(32*a)):(aC c).2.1.length<=a:=by refine pa ?_;unfold aI;have d:(2^(32*a):Nat)=4294967296^a:=(by rw[Nat.pow_mul]);rw[d] at b;have:((4294967296^a:Nat):Int)=4294967296^a:=ab;omega
def Fit (a:Int):Prop:=(aC a).2.1.length<=31250
def LB (a:Nat) (b:ar c.natAbs<=32*a):(aC c).2.1.length<=a:=LC (bN.1 b)
def gQ (a:ar c.natAbs<=1000000):Fit c:=LB 31250 U
def OU {b:mv} (c:aK b.2.1) (a:b.2.1.length<=100000000):xh (b,())=some (aC (eA b),()):=by obtain⟨e,d,_⟩:=b;unfold xh;exact aq (uc a) (aq (rX c a) rfl)
def zx (a:Bool) (b:cQ):eA (!a,b,())=-eA (a,b,()):=by unfold eA;cases a<;>simp
def IR (b:aK d) (a:Bool):eA (false,d,())=(eA (a,d,())).natAbs:=by have:=dW b;unfold eA;cases a<;>simp<;>omega
def Gm (e:Fit c):o5 (aC c,())=some (aC (-c),()):=by unfold o5;have a:(aC c).2.1.length<=100000000:=bj e aa;refine aq (uc a) (aq (rX (ju c) a) ?_);have b:=zx (aC c).1 (aC c).2.1;have d:=lr c;rw[b];show some (aC (-eA (aC c)),())=_;rw[d]
def zR (d:Fit c):r9 (aC c,())=some (aC c.natAbs,()):=by unfold r9;have a:(aC c).2.1.length<=100000000:=bj d aa;refine aq (uc a) (aq (rX (ju c) a) ?_);rw[IR (ju c) (aC c).1];have b:=lr c;show some (aC ((eA (aC c)).natAbs:Int),())=_;rw[b]
def Ix (b:Fit c):fL ((aC c).2.1,())=some ((aC c).2.1,()):=by rw[lq (ju c) (bj b aa)];have a:=dq.eq (ju c) (x9 c);show some (bx (af (aC c).2.1).toNat,())=_;rw[<-a]
def dY (a:Int):Int:=if a=0 then 0 else if a<0 then-1 else 1
def oq {z:Int} (a:Fit z):lT (aC z,())=some (dY z,()):=by
 unfold lT;refine aq (Ix a) ?_;simp only[n3,bo,uT];unfold dY;split
 ·rfl
 show(bif decide (z<0) then _ else _)=_;rw[bo];split<;>rfl
def ac.steps {q:Type} {k:e->Option (e⊕q)} {j:q->Prop} (i:Nat) (g:Nat->e->Prop) {n:e} (r:g 0 n) (v:∀c b,c<i->g c b->ac (k b) (λ|.inl l=>g (c+1) l|.inr a=>j a)) (u:∀b,g i b->ac (k b) (λ|.inl _=>False|.inr a=>j a)):ac (hX.loop k n) j:=by
 have x:∀h c b,c+h=i->g c b->∃a,ha k (h+1) b=some a/\j a:=by
  intro h
  induction h with
  |zero=>
   intro c b p m;obtain rfl:c=i:=p;obtain⟨o,f,d⟩:=u b m;cases o with
   |inl l=>exact d.elim
   |inr a=>exact⟨a,by simp only[ha,f],d⟩
  |succ h w=>
   intro c b p m;obtain⟨o,f,d⟩:=v c b U m;cases o with
   |inl l=>
    obtain⟨a,s,t⟩:=w (c+1) l U d;exact⟨a,by rw[ha,f];exact s,t⟩
   |inr a=>exact⟨a,by simp only[ha,f],d⟩
 obtain⟨a,f,d⟩:=x i 0 n U r;exact⟨a,ve.2 ⟨_,f⟩,d⟩
def vU (c:cQ) (b:Nat):af (c.take (b+1))=af (c.take b)+aI b*c.getD b 0:=by
 rcases bi b c.length with a|a
 ·rw[gC a,ht,bB a];rfl
 rw[dL U,dL a,ht,hG a];simp
def aK.getD {b:cQ} (d:aK b) (c:Nat):0<=b.getD c 0/\b.getD c 0<4294967296:=by
 rcases bi c b.length with a|a
 ·rw[ht,bB a];exact d.get a
 rw[ht,hG a];exact⟨mw _,aa⟩
def ie (b:a<d.length):d.getD a 0=d[a]:=by rw[ht,bB b];rfl
def mW (b:d.length<=a):d.getD a 0=0:=by rw[ht,hG b];rfl
theorem Cc (s:aK d) (t:aK i) (y:d.length<=10000000) (z:i.length<=10000000):qy (d,i,())=some (bx (af d+af i).toNat,()):=by
 unfold qy;refine ac.eq_iff.1 ?_;refine ac.a1 (P:=λh=>∃m q,h=(m,q,())/\aK m/\aK q/\m.length<=10000000/\q.length<=m.length/\af m+af q=af d+af i) ?_ ?_
 ·simp only[bo];refine ac.ite (λg=>ac.al.2 ⟨i,d,rfl,t,s,z,?_,Int.add_comm _ _⟩) λg=>ac.al.2 ⟨d,i,rfl,s,t,y,?_,rfl⟩
  ·simp only[a5] at g;omega
  simp only[a5] at g;omega
 rintro _ ⟨e,k,rfl,B,C,K,D,w⟩;rw[<-w];clear w s t y z;dsimp only;have A:a7 (aw e)=((e.length+1:Nat):Int):=bA U;have aj:fj 0 ((e.length+1:Nat):Int)=some 0:=(by unfold fj;rw[if_pos ⟨U,U,by have:fi=4294967296:=rfl;omega⟩];rfl);rw[A,aj];refine ac.a1 (P:=λh=>∃a c,h=(a,c,())/\c.length=e.length/\aK c/\0<=a/\a<=1/\af c+aI e.length*a=af e+af k) ?_ ?_
 ·refine ac.steps e.length (λb F=>∃a c,F=(a,(b:Int),c,())/\c.length=b/\aK c/\0<=a/\a<=1/\af c+aI b*a=af (e.take b)+af (k.take b)) ⟨0,[],rfl,rfl,aK.nil,U,U,by simp[af]⟩ ?_ ?_
  ·rintro b _ u ⟨a,c,rfl,l,n,o,r,p⟩;have J:=B.get u;have E:=C.getD b;have j:∃f,f=e[b]+a+k.getD b 0/\0<=f/\f<18446744073709551616/\f/4294967296<=1:=⟨_,rfl,U,U,U⟩;obtain⟨f,j,G,H,I⟩:=j;have v:decide ((b:Int)<aw e)=true:=aB (by simp only[a5];omega);simp only[v,cond_true,dc u,aP];refine ac.a1 (P:=λh=>h=(f/4294967296,c++[f %4294967296],())) ?_ ?_
   ·refine ac.a1 (P:=λh=>h=(f,c,())) ?_ ?_
    ·simp only[bo];refine ac.ite (λg=>?_) λg=>?_
     ·have g:b<k.length:=(by simp only[a5] at g;omega);rw[dc g];rw[ie g] at j E;refine ac.al.2 ?_;rw[bV (x:=e[b]) U U,bV (x:=e[b]+a) U U,bV (x:=k[b]) U U,bV U U,j]
     have g:k.length<=b:=(by simp only[a5] at g;omega);rw[mW g] at j;refine ac.al.2 ?_;rw[bV (x:=e[b]) U U,bV (x:=e[b]+a) U U,j,Int.add_zero]
    rintro _ rfl;dsimp only;rw[eE (by simp;omega),n4 G H,ll];exact ac.al.2 rfl
   rintro _ rfl;dsimp only;refine ac.al.2 ⟨f/4294967296,c++[f %4294967296],by rw[bA U],by simp[l],n.snoc U U,U,I,?_⟩;rw[ni,l,fZ,gC u,vU];have:=Int.emod_add_mul_ediv f 4294967296;generalize f/4294967296=L at*;generalize f %4294967296=h at*;subst j;grind
  rintro _ ⟨a,c,rfl,l,n,o,r,p⟩;have v:decide ((e.length:Int)<aw e)=false:=az (by simp only[a5];omega);simp only[v,cond_false];refine ac.al.2 ⟨a,c,rfl,l,n,o,r,?_⟩;rw[p,dL (aZ _),dL D]
 rintro _ ⟨a,c,rfl,l,n,o,r,p⟩;dsimp only;rw[eE (by simp;omega),jh o U];refine ac.of_eq (aq rfl (aq (lq (n.snoc o U) (by simp;omega)) rfl)) ?_;show(fO (c++[a]),())=_;rw[fO,ni,l,p]
def h3 (b:cQ) (c:Nat):Prop:=∀a,c<=a->(d:a<b.length)->b[a]=0
def h3.ls (b a:Nat):h3 (List.replicate b (0:Int)) a:=λd _ c=>by simp
def h3.set {b:cQ} {a:Nat} (c:h3 b a) (e:Int):h3 (b.set a e) (a+1):=λd f g=>by rw[rK U];exact c d U _
def h3.Ia {j:Nat} (b:h3 d a) (f:Int) (g:j<a):h3 (d.set j f) a:=λe c h=>by rw[rK U];exact b e c _
theorem F1 (s:aK d) (t:aK i) (E:d.length<=10000000) (v:i.length<=d.length) (C:af i<=af d):sd (d,i,())=some (bx (af d-af i).toNat,()):=by
 unfold sd;refine ac.eq_iff.1 ?_;simp only[a5,iN (U:d.length<=4294967296),aP];refine ac.a1 (P:=λh=>∃a b,h=(a,())/\a.length=d.length/\aK a/\0<=b/\b<=1/\af a-aI d.length*b=af d-af i) ?_ ?_
 ·refine ac.steps d.length (λe y=>∃b a,y=(b,(e:Int),a,())/\a.length=d.length/\aK a/\h3 a e/\0<=b/\b<=1/\af a-aI e*b=af (d.take e)-af (i.take e)) ⟨0,_,rfl,ab,aK.ls _,h3.ls _ _,U,U,by simp[af,pP]⟩ ?_ ?_
  ·rintro e _ o ⟨b,a,rfl,j,g,q,m,n,l⟩;have D:=s.get o;have w:=t.getD e;obtain⟨c,k,z,A⟩:∃c,c=d[e]-b-i.getD e 0/\-4294967296<=c/\c<4294967296:=⟨_,rfl,U,U⟩;have p:decide ((e:Int)<(d.length:Int))=true:=aB U;simp only[a5,p,cond_true,dc o,aP];refine ac.a1 (P:=λh=>h=(-(c/4294967296),a.set e (c %4294967296),())) ?_ ?_
   ·refine ac.a1 (P:=λh=>h=(c %18446744073709551616,a,())) ?_ ?_
    ·simp only[bo];refine ac.ite (λf=>?_) λf=>?_
     ·have f:e<i.length:=U;rw[dc f];rw[ie f] at k w;refine ac.al.2 ?_;simp only[ke];rw[k];congr 1;omega
     have f:i.length<=e:=U;rw[mW f] at k;refine ac.al.2 ?_;simp only[ke];rw[k];congr 1;omega
    rintro _ rfl;dsimp only;rw[n4 U U,nk U,ll];refine ac.al.2 ?_;rw[oT 1 U U 1 aa aa];have ao:c %18446744073709551616/4294967296 %2^1=-(c/4294967296):=(by rw[show(2:Int)^1=2 from rfl];omega);have x:c %18446744073709551616 %4294967296=c %4294967296:=U;rw[ao,x]
   rintro _ rfl;dsimp only;refine ac.al.2 ⟨-(c/4294967296),a.set e (c %4294967296),by rw[bA U],by simp[j],g.set U U,q.set _,U,U,?_⟩;rw[ms U,q e (Nat.le_refl _) U,fZ,gC o,vU];have:=Int.emod_add_mul_ediv c 4294967296;generalize c/4294967296=F at*;generalize c %4294967296=h at*;subst k;grind
  rintro _ ⟨b,a,rfl,j,g,q,m,n,l⟩;have p:decide ((d.length:Int)<(d.length:Int))=false:=az U;simp only[a5,p,cond_false];refine ac.al.2 ⟨a,b,rfl,j,g,m,n,?_⟩;rw[l,dL (aZ _),dL v]
 rintro _ ⟨a,b,rfl,j,g,m,n,l⟩;dsimp only;have r:=fu g;have B:=es d.length;rw[j] at r;have u:b=0:=by
  rcases hq 0 b with f|f
  ·obtain rfl:b=1:=U;omega
  omega
 subst u;refine ac.of_eq (aq (lq g U) rfl) ?_;show(fO a,())=_;rw[fO,<-l];simp
def ee (a b:Int):Int:=if a<b then-1 else if b<a then 1 else 0
def Ag (a b:Int):r4 (a,b,())=some (ee a b,()):=by
 unfold r4 o3 ee;simp only[bne_self_eq_false,aP,cond_false,bo];split
 ·rfl
 split
 ·rename_i c d
  first|rfl|(rw[ak U])
 first|rfl|(rename_i c d;rw[ag U])
def K6 (a b:Int):wP (a,b,())=some (ee a b,()):=by
 unfold wP wR ee;simp only[bne_self_eq_false,aP,cond_false,bo];split
 ·rfl
 split
 ·rename_i c d
  first|rfl|(rw[ak U])
 first|rfl|(rename_i c d;rw[ag U])
theorem zy (h:aK d) (j:aK i) (k:a<d.length) (l:a<i.length) (c:af (d.drop (a+1))=af (i.drop (a+1))) (p:d[a]<i[a]):af d<af i:=by rw[nj d a U,nj i a U,jf k,jf l,c];have e:=fu (h.take a);have m:=dW (j.take a);rw[eB,ga U] at e;have n:aI a*(d[a]+1)<=aI a*i[a]:=iW U (ec (es a));have o:aI a*(d[a]+1)=aI a*d[a]+aI a:=(by grind);have f:∀b,aI a*(d[a]+b)=aI a*d[a]+aI a*b:=λb=>(by grind);have g:∀b,aI a*(i[a]+b)=aI a*i[a]+aI a*b:=λb=>(by grind);rw[f,g];omega
def ow (c:aK i) (e:aK d) (f:dq d) (a:i.length<d.length):af i<af d:=by have g:=fu c;have h:=dq.low e f (by intro b;rw[b] at a;simp at a);have j:=ma (m:=i.length) (n:=d.length-1) U;omega
def wK (g:aK d) (h:aK i) (r:dq d) (s:dq i) (v:d.length<=10000000) (w:i.length<=10000000):qx (d,i,())=some (ee (af d) (af i),()):=by
 unfold qx;refine ac.eq_iff.1 ?_;simp only[dN,a5];by_cases o:d.length=i.length
 ·rw[aB (U:(d.length:Int)=i.length)];simp only[kf,cond_false];refine ac.a1 (P:=λm=>match m with|.inl _=>af d=af i|.inr p=>p=(ee (af d) (af i),())) ?_ ?_
  ·refine ac.steps d.length (λc q=>q=(((d.length:Nat):Int)-1-c,())/\af (d.drop (d.length-c))=af (i.drop (d.length-c))) ⟨?_,?_⟩ ?_ ?_
   ·rw[bh U U];simp
   ·rw[nw U,nw U]
   ·rintro c _ t ⟨rfl,e⟩;obtain⟨a,u⟩:∃a,d.length=a+1+c:=⟨d.length-1-c,U⟩;have aj:((d.length:Nat):Int)-1-(c:Int)=(a:Int):=U;have k:a<d.length:=U;have l:a<i.length:=U;rw[(U:d.length-c=a+1)] at e;simp only[aj,aB (U:(a:Int)>=0),cond_true,dc k,dc l,aP,K6];by_cases j:d[a]=i[a]
    ·simp only[aB j,kf,cond_false];refine ac.al.2 ⟨?_,?_⟩
     ·rw[bh U U];congr 1;omega
     rw[(U:d.length-(c+1)=a),jf k,jf l,j,e]
    simp only[az j,ly,cond_true];refine ac.al.2 ?_;show(ee d[a] i[a],())=_;have n:ee d[a] i[a]=ee (af d) (af i):=by
     unfold ee;rcases Int.lt_or_gt_of_ne j with b|b
     ·rw[ak b,ak (zy g h k l e b)]
     have:=zy h g l k e.symm b;rw[ag U,ak b,ag U,ak this]
    rw[n]
   rintro _ ⟨rfl,e⟩;have aj:¬(((d.length:Nat):Int)-1-(d.length:Int)>=0):=U;simp only[az aj,cond_false];refine ac.al.2 ?_;simpa using e
  rintro(m|m) f
  ·refine ac.al.2 ?_;have f:af d=af i:=f;unfold ee;rw[f];simp
  have f:m=_:=f;rw[f];exact ac.al.2 rfl
 rw[az (U:¬(d.length:Int)=i.length)];simp only[ly,cond_true,Ag,aP];refine ac.al.2 ?_;congr 1;unfold ee;rcases Nat.lt_or_gt_of_ne o with b|b
 ·rw[ak U,ak (ow g h s b)]
 have:=ow h g r b;rw[ag U,ak U,ag U,ak this]
def BG {x y:Int} (b:0<=x/\x<4294967296) (a:0<=y/\y<4294967296):0<=x*y/\x*y<=18446744065119617025:=by refine⟨kh b.1 a.1,?_⟩;have c:x*y<=4294967295*y:=jN U a.1;have d:(4294967295:Int)*y<=4294967295*4294967295:=iW U aa;omega
theorem RW (G:0<=c/\c<4294967296) (F:aK d) (S:a+d.length<b) (R:b<=100000000) (C:i.length=b) (D:aK i) (I:h3 i (a+d.length)) {r:g5->Prop} (E:∀g f,f.length=b->aK f->h3 f (a+d.length)->0<=g->g<4294967296->af f+aI (a+d.length)*g=af i+aI a*(c*af d)->r (g,f,())):ac (loop (σ:=oS) (ρ:=g5) (λ(l,j,o,_)=>
 bif decide (j<aw d) then
 (aQ d j).bind λy=>
 rd o (ax ((a:Int)+j)) λz=>
 wr o (ax ((a:Int)+j)) (bL (bD IntKind.u64 (aH (aH (aH (aH c*aH y)+aH z)+l)) 4294967295)) λP=>
 (df IntKind.u64 (aH (aH (aH (aH c*aH y)+aH z)+l)) 32).bind λO=>
 some (.inl (O,a7 j,P,())) else
 some (.inr (l,o,()))) (0,0,i,())) r:=by
 refine ac.steps d.length (λe M=>∃g f,M=(g,(e:Int),f,())/\f.length=b/\aK f/\h3 f (a+d.length)/\0<=g/\g<4294967296/\af f+aI (a+e)*g=af i+aI a*(c*af (d.take e))) ⟨0,i,rfl,C,D,I,U,U,by simp[af]⟩ ?_ ?_
 ·rintro e _ m ⟨g,f,rfl,ao,k,p,t,u,q⟩;have H:=F.get m;have V:=k.get (n:=a+e) U;have T:=BG G H;obtain⟨h,s,v,w⟩:∃h,h=c*d[e]+f[a+e]+g/\0<=h/\h<18446744073709551616:=⟨_,rfl,U,U⟩;simp only[aB (show(e:Int)<aw d by simp only[a5];omega),cond_true,dc m,aP];have aj:ax ((a:Int)+(e:Int))=((a+e:Nat):Int):=(by rw[bh U U];simp);rw[aj,mb U];have A:aH (aH (aH (aH c*aH d[e])+aH f[a+e])+g)=h:=by
   rw[bV (x:=c) U U,bV (x:=d[e]) U U,bV (x:=f[a+e]) U U,bV (x:=c*d[e]) U U,bV (x:=c*d[e]+f[a+e]) U U,<-s,bV v w]
  rw[A,n4 v w,nk U,ll];refine ac.al.2 ⟨h/4294967296,f.set (a+e) (h %4294967296),by rw[bA U],by simp[ao],k.set U U,p.Ia _ U,U,U,?_⟩;rw[ms U,(U:a+(e+1)=(a+e)+1),fZ,gC m];have Q:=he h 4294967296;rw[tu] at q|-;generalize h/4294967296=K at*;generalize h %4294967296=L at*;generalize f[a+e]=J at*;generalize d[e]=N at*;subst s;have B:L=c*N+J+g-4294967296*K:=U;subst B;grind
 rintro _ ⟨g,f,rfl,ao,k,p,t,u,q⟩;simp only[az (show¬((d.length:Int)<aw d) by simp only[a5];omega),cond_false];refine ac.al.2 (E g f ao k p t u ?_);rw[q,dL (aZ _)]
theorem SX (w:aK i) (x:aK d) (z:i.length<=10000000) (A:d.length<=10000000):xm (i,d,())=some (bx (af i*af d).toNat,()):=by
 unfold xm;refine ac.eq_iff.1 ?_;simp only[n3];refine ac.a1 (P:=λo=>match o with|.inl _=>i≠[]/\d≠[]|.inr g=>g=(bx (af i*af d).toNat,())) ?_ ?_
 ·by_cases h:i=[]
  ·simp only[aB h];refine ac.al.2 ?_;subst h;simp[af];rfl
  simp only[az h,beq_self_eq_true,cond_true];by_cases j:d=[]
  ·simp only[aB j,cond_true];refine ac.al.2 ?_;subst j;simp[af];rfl
  simp only[az j,cond_false];exact ac.al.2 ⟨h,j⟩
 rintro(o|o) k
 rotate_left
 ·have k:o=_:=k;subst k;exact ac.al.2 rfl
 clear k;dsimp only;have v:ax (aw i+aw d)=((i.length+d.length:Nat):Int):=(by simp only[a5];rw[bh U U];simp);rw[v,iN U,Option.bind_some];refine ac.a1 (P:=λg=>∃a,g=(a,())/\a.length=i.length+d.length/\aK a/\af a=af i*af d) ?_ ?_
 ·refine ac.steps i.length (λb y=>∃a,y=((b:Int),a,())/\a.length=i.length+d.length/\aK a/\h3 a (b+d.length)/\af a=af (i.take b)*af d) ⟨_,rfl,ab,aK.ls _,h3.ls _ _,by simp[af,pP]⟩ ?_ ?_
  ·rintro b _ q ⟨a,rfl,ao,f,p,u⟩;simp only[aB (show(b:Int)<aw i by simp only[a5];omega),cond_true,dc q,Option.bind_some];refine ac.a1 (P:=λg=>∃e c,g=(e,c,())/\c.length=i.length+d.length/\aK c/\h3 c (b+d.length)/\0<=e/\e<4294967296/\af c+aI (b+d.length)*e=af a+aI b*(i[b]*af d)) (RW (w.get q) x U U ao f p λe c r s l m n t=>⟨e,c,rfl,r,s,l,m,n,t⟩) ?_;rintro _ ⟨e,c,rfl,r,s,l,m,n,t⟩;have aj:ax ((b:Int)+aw d)=((b+d.length:Nat):Int):=(by simp only[a5];rw[bh U U];simp);dsimp only;rw[aj,jh m n,nk U];refine ac.al.2 ⟨c.set (b+d.length) e,by rw[bA U],by simp[r],s.set m n,?_,?_⟩
   ·rw[(U:b+1+d.length=b+d.length+1)];exact l.set _
   rw[ms U,l _ (aZ _) U,gC q,Int.sub_zero,t,u];grind
  rintro _ ⟨a,rfl,ao,f,p,u⟩;simp only[az (show¬((i.length:Int)<aw i) by simp only[a5];omega),cond_false];refine ac.al.2 ⟨a,rfl,ao,f,?_⟩;rw[u,dL (aZ _)]
 rintro _ ⟨a,rfl,ao,f,p⟩;refine ac.of_eq (aq (lq f (by show a.length<=_;omega)) rfl) ?_;show(fO a,())=_;rw[fO,p]
def NQ:∀a:Nat,a<256->ng yB (a:Int)=some (ar a:Int):=by have b:(List.range 256).all (λa=>ng yB (a:Int)==some (ar a:Int))=true:=(by decide+kernel);intro a c;have:=et.1 b a (hg.2 c);exact eq_of_beq this
def CC {x y:Int} (a:0<=y) (b:y<=32):df .u32 x y=some (x/2^y.toNat):=by unfold df;rw[ak a,show IntKind.u32.bits=32 from rfl,ga U,v9 _ (by exact Int.pow_nonneg aa)]
def If (a:0<=c) (b:c<=32):fN .u32 n c=some ((n*2^c.toNat) %4294967296):=by unfold fN;rw[ak a,CX,show IntKind.u32.bits=32 from rfl,ga U]
def Ty (a:0<=c) (b:c<256):IntKind.u8.wrap c=c:=by unfold IntKind.wrap;refine(ag (ab:¬(false&&decide (c %256>=(128:Int)))=true)).trans ?_;show c %256=c;omega
def D6 {n k:Nat} (a:2^k<=n):ar n=ar (n/2^k)+k:=by rw[tY];have:=kv.2 a;omega
def FH {n:Nat} (i:n<4294967296):se ((n:Int),())=some ((ar n:Int),()):=by
 unfold se;refine ac.eq_iff.1 ?_;refine ac.a1 (P:=λe=>∃a b:Nat,e=((a:Int),(b:Int),())/\a<65536/\ar n=ar a+b/\b<=16) ?_ ?_
 ·simp only[bo];refine ac.ite (λf=>?_) λf=>?_
  ·rw[CC aa aa];refine ac.al.2 ⟨n/2^16,16,?_,U,D6 U,U⟩;simp
  exact ac.al.2 ⟨n,0,rfl,U,rfl,U⟩
 rintro _ ⟨a,b,rfl,f,g,j⟩;refine ac.a1 (P:=λe=>∃a b:Nat,e=((a:Int),(b:Int),())/\a<256/\ar n=ar a+b/\b<=24) ?_ ?_
 ·simp only[bo];refine ac.ite (λc=>?_) λc=>?_
  ·rw[CC aa aa];refine ac.al.2 ⟨a/2^8,b+8,?_,U,by have:=D6 (n:=a) (k:=8) U;omega,U⟩;rw[wrap64 U U];simp
  exact ac.al.2 ⟨a,b,rfl,U,g,U⟩
 rintro _ ⟨d,o,rfl,c,h,l⟩;dsimp only;rw[Ty U U,NQ d c];refine ac.al.2 ?_;have m:ar d<=8:=bN.2 U;rw[wrap64 (x:=(ar d:Int)) U U,wrap64 U U,h];congr 1;omega
def Kt {l:cQ} {x:Int} (g:aK l) (p:0<x):ar (af l+aI l.length*x).toNat=32*l.length+ar x.toNat:=by
 obtain⟨b,rfl⟩:=dX (ec p);obtain⟨d,o⟩:=dX (dW g);have f:=fu g;rw[o] at f|-;have n:aI l.length=((2^(32*l.length):Nat):Int):=(by unfold aI;rw[Nat.pow_mul];simp);rw[n] at f|-;generalize 32*l.length=a at*;have h:0<b:=U;have j:((d:Int)+((2^a:Nat):Int)*(b:Int)).toNat=d+2^a*b:=(by rw[<-mx,<-Int.natCast_add];rfl);show ar ((d:Int)+((2^a:Nat):Int)*(b:Int)).toNat=_;rw[j];obtain⟨e,i⟩:=jZ h;have q:=lN h;obtain⟨c,m⟩:∃c,ar b=c+1:=⟨ar b-1,U⟩;show _=a+ar b;rw[m] at e i|-;have r:d<2^a:=U;refine D5 (k:=a+c) ?_ ?_
 ·rw[c4];have:=h0 (2^a) e;simp only[tK] at this;omega
 rw[hy,c4] at*;have:=h0 (2^a) (U:b+1<=2^c*2);rw[Nat.mul_add,Nat.mul_one,<-gb] at this;omega
def Bo (c:aK d) (h:dq d) (k:d.length<=10000000):sc (d,())=some ((ar (af d).toNat:Int),()):=by
 unfold sc;simp only[n3,bo];split
 ·rename_i a;subst a;rfl
 rename_i a;have m:0<d.length:=List.length_pos_iff.2 a;have aj:ax (aw d-1)=((d.length-1:Nat):Int):=(by simp only[a5];rw[bh U U];omega);rw[aj,dc U];have e:=c.get (n:=d.length-1) U;have i:d[d.length-1]≠0:=h _ (by rw[List.getLast?_eq_getElem?,bB U]);have f:af d=af (d.take (d.length-1))+aI (d.length-1)*d[d.length-1]:=(by rw[<-gC U,dL U]);have b:=Kt (l:=d.take (d.length-1)) (x:=d[d.length-1]) (c.take _) U;rw[eB,ga U,<-f] at b;rw[b];obtain⟨n,g⟩:=dX e.1;rw[g] at e|-;refine aq rfl (aq (FH (n:=n) U) ?_);have j:ar n<=32:=bN.2 U;show some (ax (ax (((d.length-1:Nat):Int)*32)+(ar n:Int)),())=_;rw[bh (x:=((d.length-1:Nat):Int)*32) U U,bh U U];congr 2;show _=((32*(d.length-1)+ar n:Nat):Int);omega
def qm (a:Fit c):nM (aC c,())=some ((ar c.natAbs:Int),()):=by unfold nM;refine aq (Ix a) (aq (Bo (ju c) (x9 c) (bj a aa)) ?_);rw[g8];rfl
theorem N3 (h:f=(2*b+1)*2^a) (q:f<2^32):f&&&(2^32-f)=2^a:=by
 have l:=eT a;have r:0<f:=(by rw[h];exact Nat.mul_pos U l);obtain⟨e,i⟩:∃e,f=e+1:=⟨f-1,U⟩;have p:e=2^a*(2*b)+(2^a-1):=(by have:e+1=2^a*(2*b)+2^a:=(by rw[<-i,h];grind);omega);have o:f=2^a*(2*b+1)+0:=(by rw[h,hL];rfl);refine Nat.eq_of_testBit_eq λc=>?_;rw[Nat.testBit_and,i,Nat.testBit_two_pow_sub_succ U,<-i];have aj:f.testBit c=if c<a then false else(2*b+1).testBit (c-a):=by rw[o,Nat.testBit_two_pow_mul_add _ l];simp
 have m:e.testBit c=if c<a then(2^a-1).testBit c else(2*b).testBit (c-a):=by rw[p,Nat.testBit_two_pow_mul_add _ U]
 rw[aj,m,wi];by_cases g:c<a
 ·rw[ak g];simp only[Bool.false_and];exact(decide_eq_false U).symm
 rw[ag g,ag g];by_cases k:a=c
 ·subst k;have d:a<32:=by
   rcases bi a 32 with d|d
   ·exact d
   have:=nD (aa:1<=2) d;have s:=dD (2^a) (U:1<=2*b+1);omega
  simp[d]
 obtain⟨j,n⟩:∃j,c-a=j+1:=⟨c-a-1,U⟩;rw[n,Nat.testBit_succ,Nat.testBit_succ,(U:(2*b+1)/2=b),(U:2*b/2=b),decide_eq_false k];cases b.testBit j<;>simp
def KB:∀a:Nat,a<32->aQ mN (2^a*125613361 %4294967296/2^(27:Int).toNat)=some (a:Int):=by have b:(List.range 32).all (λa=>aQ mN (2^a*125613361 %4294967296/2^(27:Int).toNat)==some (a:Int))=true:=(by decide+kernel);intro d c;have:=et.1 b d (hg.2 c);exact eq_of_beq this
def II (e:0<a) (c:a<4294967296) (b:Int):bL (bD IntKind.u32 (a:Int) (bL (0-(a:Int)))*b)=2^a9 a*b %4294967296:=by obtain⟨g,f⟩:=pM e;have aj:bL (0-(a:Int))=((2^32-a:Nat):Int):=(by rw[oz];omega);have d:((2^a9 a:Nat):Int)=2^a9 a:=ab;rw[aj,Dz c U,N3 f c,oz,d]
def IJ {n:Nat} (b:0<n) (a:n<4294967296):sf ((n:Int),())=some ((a9 n:Int),()):=by have e:a9 n<32:=fA (ov b) (bN.2 a);have d:=KB _ e;have c:=CC (x:=bL (bD IntKind.u32 (n:Int) (bL (0-(n:Int)))*125613361)) (y:=27) aa aa;rw[II b a 125613361] at c;unfold sf;show(bif (n:Int)==0 then some (32,()) else(df IntKind.u32 (bL (bD IntKind.u32 (n:Int) (bL (0-(n:Int)))*125613361)) 27).bind λf=>(aQ mN f).bind λg=>some (ax g,()))=_;rw[bR (by rw[dH];exact az U),II b a 125613361,c];refine aq rfl (aq d ?_);rw[bh U U]
theorem IK {x:Int} (r:af (d.take b)=0) (g:b<d.length) (h:aK d) (s:d[b]≠0):a9 (af d).toNat=32*b+a9 (d[b]).toNat:=by
 have q:=h.get g;rw[nj d b U,r,jf g];have p:=dW (h.drop (b+1));generalize af (d.drop (b+1))=u at*;generalize d[b]=v at*;obtain⟨c,rfl⟩:=dX q.1;obtain⟨e,rfl⟩:=dX p;have i:0<c:=U;obtain⟨j,m⟩:=pM i;have t:a9 c<32:=fA (ov i) (bN.2 U);have o:aI b=((2^(32*b):Nat):Int):=(by unfold aI;rw[Nat.pow_mul];simp);have k:(0+aI b*((c:Int)+4294967296*(e:Int))).toNat=(c+4294967296*e)*2^(32*b):=(by rw[o,Int.zero_add,hL (c+4294967296*e)];have:((2^(32*b):Nat):Int)*((c:Int)+4294967296*(e:Int))=((2^(32*b)*(c+4294967296*e):Nat):Int):=(by rw[mx];simp);rw[this];rfl);show a9 (0+aI b*((c:Int)+4294967296*(e:Int))).toNat=32*b+a9 c;rw[k,vS U,Nat.add_comm];congr 1;obtain⟨f,n⟩:∃f,32=a9 c+(f+1):=⟨31-a9 c,U⟩;refine tj (a:=j+2^f*e) ?_;have l:(4294967296:Nat)=2^a9 c*(2^f*2):=by
  have:(4294967296:Nat)=2^32:=rfl;rw[this]
  conv=>lhs;rw[n]
  rw[c4,hy]
 rw[l]
 conv=>lhs;lhs;rw[m]
 grind
def IL {z:Int} (o:Fit z) (r:z≠0):uw (aC z,())=some ((a9 z.natAbs:Int),()):=by
 unfold uw;dsimp only;have i:=ju z;have u:=g8 z;have s:(aC z).2.1.length<=31250:=o;generalize(aC z).2.1=b at*;have m:z.natAbs=(af b).toNat:=U;rw[m];refine ac.eq_iff.1 (ac.a1 (P:=λh=>match h with|.inl _=>False|.inr p=>p=((a9 (af b).toNat:Int),())) ?_ ?_)
 ·refine ac.steps b.length (λa q=>q=((a:Int),())/\af (b.take a)=0) ⟨rfl,rfl⟩ ?_ ?_
  ·rintro a _ f ⟨rfl,e⟩;have j:=i.get f;simp only[aB (show(a:Int)<aw b by simp only[a5];omega),cond_true,dc f,aP,dN];by_cases c:b[a]=0
   ·simp only[aB c,kf,cond_false];refine ac.al.2 ⟨by rw[bA U],?_⟩;rw[gC f,c,e];simp
   simp only[az c,ly,cond_true];have k:=IK (x:=0) e f i c;rw[k];obtain⟨d,l⟩:=dX j.1;rw[l] at j c|-;have t:a9 d<32:=fA (ov U) (bN.2 U);refine ac.of_eq (aq (IJ (n:=d) U U) rfl) ?_;show(ax (ax ((a:Int)*32)+(a9 d:Int)),())=_;rw[bh (x:=(a:Int)*32) U U,bh U U];congr 1;show _=((32*a+a9 d:Nat):Int);omega
  rintro _ ⟨rfl,e⟩;exfalso;rw[dL (aZ _)] at e;omega
 rintro(h|h) g
 ·exact g.elim
 have g:h=_:=g;rw[g];exact ac.al.2 rfl
end Go.hX
end
