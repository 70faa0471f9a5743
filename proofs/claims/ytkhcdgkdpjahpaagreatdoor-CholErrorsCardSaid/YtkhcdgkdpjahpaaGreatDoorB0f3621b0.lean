/-
  Parts of the proof: Fw38, Fw22, Fw23, Fw26, Fw27, Fw28, Fw34, Fw35, Fw37, Fw42, Fw45, Fw24, Fw29, Fw31, Fw32, Fw33, Fw30: the framework (Fw), pure forms (Dn), plain laws (Pl, Th), calls of functions (Ok).
-/
import Derived.Test.YtkhcdgkdpjahpaaGreatDoorB48d38be2

set_option linter.all false
set_option maxHeartbeats 1000000
noncomputable section
namespace Go.h1
variable{a:Type}{b l W:Nat}{c q:TypeId}{d t:ag}{e P:List (Nat×az)}{f:List (Nat×List aO)}{g y:cO}{h:Oper}{i X:aB}{j:List aO}{k:List (Nat×af)}{m w:Operand}{n x:af}{o:Exit->Act->World->Prop}{r:Array (Nat×Operand)}{s:Program}{u:aB->Prop}{v:World}{z:Nat->cI}{A:Nat->cO}{B:Nat->Prop}{C:Exit->aB->Prop}{D:List (Nat×ag)}{E Y:Operand->ag}{F:az}{G:Value}{H:cI}{I:Bool}{L:List ag}{M:List ResultVar}{N:Op}{O:MapEntry}{Q:bO->Nat->Prop}{R:Array Operand}{S:List az}{T:aO}{V:Array TypeId}
section
def pR:List ag->cL->Option (Nat×List aO)
 |.ref id (c::b)::_,true::_=>some (id,c::b)
 |_::as,_::a=>pR as a
 |_,_=>none
def nh (id:Nat) (a:ag):ag:=bif a.dB [id] then .dead else a
def jK (id:Nat):List ag->cL->List ag
 |.ref _ (_::_)::as,true::_=>.ref id []::as.map (nh id)
 |a::as,_::b=>nh id a::jK id as b
 |as,_=>as.map (nh id)
def hX {a:Type} (c:Nat->a) (d:Nat) (e:a):Nat->a:=λb=>if b=d then e else c b
def kl {d:Nat->a} {c:a}:hX d b c b=c:=by simp[hX]
def ix {c:Nat->a} {e:a} (d:b≠l):hX c l e b=c b:=by simp[hX,d]
section
variable {E:dz} {C:c8} {st:aB} {A:cG} {w w':World} {I I':Nat->Prop} {rt:Nat->cI} {fp:Nat->cO}
def py {id:Nat} (a:Nat):ak ((id,F)::del [id] e) a=if id=a then some F else ak e a:=by
 rw[bG];split
 ·rfl
 rename_i b;rw[kc,ah (by simpa usingλc=>b c.symm)]
def bi.split (e:bi C st A w I rt fp) {id:Nat} {v:az} (q:ak st.h id=some v) {i:af} {m:i.den} {r:cI} {j K:cO} (E:aG (aY I C.B) w i r m j) (u:(fp id).Perm (j++K)):bi C ⟨[],(id,⟨i,m⟩)::del [id] st.h⟩ A w I (hX rt id r) (hX fp id j):=by
 obtain⟨_,H,J⟩:=e.tree id v q;have p:∀a∈j,a∈fp id:=λa b=>u.mem_iff.2 (by simp[b]);have o:∀c d,ak ((id,(⟨i,m⟩:az))::del [id] st.h) c=some d->(c=id/\d=⟨i,m⟩)\/(c≠id/\ak st.h c=some d):=λc d f=>by
  rw[py] at f;split at f
  ·rename_i n;exact .inl ⟨n.symm,(dp f).symm⟩
  rename_i n;exact .inr ⟨λx=>n x.symm,f⟩
 refine{e with tree:=?_,dis:=?_,tmp:=λc=>.dead _}
 ·intro c d f;rcases o c d f with⟨rfl,rfl⟩|⟨g,k⟩
  ·rw[kl,kl];exact⟨E,(hu.1 (u.nodup_iff.1 H)).1,λa b=>J a (p a b)⟩
  rw[ix g,ix g];exact e.tree c d k
 intro F G d L z D l a b;rcases o F d z with⟨rfl,rfl⟩|⟨g,k⟩<;>rcases o G L D with⟨rfl,rfl⟩|⟨s,t⟩
 ·exact absurd rfl l
 ·rw[kl] at b;rw[ix s];exact e.dis _ _ _ _ q t l a (p a b)
 ·rw[ix g] at b;rw[kl];exactλy=>e.dis _ _ _ _ k q l a b (p a y)
 rw[ix g] at b;rw[ix s];exact e.dis _ _ _ _ k t l a b
def bk.nh (l:bi C st A w I rt fp) {id:Nat} {q:az} {i:cI} {j:cO} {a:ag} {f:Value} (k:bk (aY I C.B) w st.h rt fp a f):bk (aY I C.B) w ((id,q)::del [id] st.h) (hX rt id i) (hX fp id j) (nh id a) f:=by
 unfold h1.nh;cases o:a.dB [id] with
 |true=>exact .dead _
 |false=>
  refine k.pE (λr g n=>⟨n,bB.refl _ _⟩) (λd m p e=>?_);have c:d≠id:=λb=>C0 o d m (by simp[b]);refine⟨?_,ix c,ix c,(l.tree d p e).1,λg _=>bB.refl _ _⟩;rw[py,ah (λb=>c b.symm)];exact e
def Ke (q:bi C st A w I rt fp) {id:Nat} (E:ak st.h id=some F) {y:n.den} {u:Loc} {f:cO} (z:aJ w F.1 none (rt id) (T::j) n u H):∀{d:List ag} {c:cL} {a:cI},fY (bk (aY I C.B) w st.h rt fp) d a->pR d c=some (id,T::j)->fY (bk (aY I C.B) w ((id,⟨n,y⟩)::del [id] st.h) (hX rt id H) (hX fp id f)) (jK id d c) a:=by
 have G:∀{d:List ag} {a:cI},fY (bk (aY I C.B) w st.h rt fp) d a->fY (bk (aY I C.B) w ((id,⟨n,y⟩)::del [id] st.h) (hX rt id H) (hX fp id f)) (d.map (h1.nh id)) a:=by
  intro d
  induction d with
  |nil=>intro a b;cases a with|nil=>trivial|cons=>exact b.elim
  |cons e m p=>intro a b;cases a with|nil=>exact b.elim|cons J a=>exact⟨b.1.nh q,p b.2⟩
 intro d
 induction d with
 |nil=>intro c a _ b;cases c<;>cases b
 |cons e m p=>
  intro c a b i;cases a with
  |nil=>exact b.elim
  |cons J a=>
  cases c with
  |nil=>cases e<;>first|(cases i;done)|(rename_i l g;cases g<;>cases i)
  |cons k c=>
   by_cases o:∃l s g,e=.ref l (s::g)/\k=true
   ·obtain⟨l,s,g,rfl,rfl⟩:=o;simp only[pR,bH,e9,fd] at i;obtain⟨rfl,rfl,rfl⟩:=i;have x:=b.1;cases x with|ref r D=>
    rw[E] at r;cases r;obtain⟨rfl,rfl,rfl⟩:=D.hn z;refine⟨.ref (t:=⟨_,y⟩) (loc:=none) (by rw[py,al rfl]) ?_,G b.2⟩;rw[kl];exact aJ.here
   have ai:pR (e::m) (k::c)=pR m c:=by cases e<;>first|rfl|(rename_i l g;cases g<;>cases k<;>first|rfl|exact absurd ⟨_,_,_,rfl,rfl⟩ o)
   have v:jK id (e::m) (k::c)=h1.nh id e::jK id m c:=by cases e<;>first|rfl|(rename_i l g;cases g<;>cases k<;>first|rfl|exact absurd ⟨_,_,_,rfl,rfl⟩ o)
   rw[ai] at i;rw[v];exact⟨b.1.nh q,p b.2 i⟩
def kz.Rq (N:bi C st A w I rt fp) {id:Nat} (v:ak st.h id=some F) {z:n.den} (f4:bN F.1 F.2 j n z) {co:Loc} (d3:aJ w F.1 none (rt id) j n co H):∃r x,aG (aY I C.B) w n H z r/\(fp id).Perm (r++x)/\∀{w':World} {I':Nat->Prop} {s:cO} {P:List (Nat×List aO)} {J:List (Nat×az)} {W:Nat->cI} {K:Nat->cO} {X:n.den} {u:F.1.den},kz C ⟨[],(id,⟨n,z⟩)::del [id] st.h⟩ w w' I I' (hX rt id H) (hX fp id r) s P J W K->id∈s->ak J id=some ⟨n,X⟩->(id,[])∈P->(∀g∈P,g.2=[])->df F.1 F.2 j n X u->∃em ex,kz C st w w' I I' rt fp s ((id,j)::P) ((id,⟨F.1,u⟩)::J) em ex/\∀k,k≠id->em k=W k:=by
 obtain⟨hc,d9,el⟩:=N.tree id F v;obtain⟨i1,ic,r,x,fn,fs,ft,M,fz,fT,f0⟩:=u3 j (loc:=none) hc (λ_ _ b=>by cases b) d9 (λ_ _ b=>by cases b) (N.notM v) f4;obtain⟨_,rfl,rfl⟩:=d3.hn fn;refine⟨r,x,fs,M,λ{w' I' s P J W K X u} l d0 V o am d6=>?_⟩;have ge:∀a∈r,a∈fp id:=λa c=>M.mem_iff.2 (by simp[c]);have d4:=hu.1 (M.nodup_iff.1 d9);have Q:∀a,(∃d∈s,∃e,ak ((id,(⟨n,z⟩:az))::del [id] st.h) d=some e/\a∈hX fp id r d)->∃d∈s,∃e,ak st.h d=some e/\a∈fp d/\(d=id->a∈r):=by
  rintro a ⟨d,m,e,f,c⟩;by_cases g:d=id
  ·subst g;rw[kl] at c;exact⟨d,m,F,v,ge a c,λ_=>c⟩
  rw[py,ah (λL=>g L.symm)] at f;rw[ix g] at c;exact⟨d,m,e,f,c,λL=>absurd L g⟩
 have E:∀a∈x,a<w.heap.size/\¬∃d∈s,∃e,ak ((id,(⟨n,z⟩:az))::del [id] st.h) d=some e/\a∈hX fp id r d:=λa c=>by
  have O:a∈fp id:=M.mem_iff.2 (by simp[c]);refine⟨(el a O).2.2.1,λb=>?_⟩;obtain⟨d,_,e,f,p,D⟩:=Q a b;by_cases g:d=id
  ·exact d4.2.2 a (D g) a c rfl
  exact N.dis d id e F f v g a p O
 have ad:∀a∈x,w'.heap[a]?=w.heap[a]?:=λa c=>l.heap a (E a c).1 (λd m e f b=>(E a c).2 ⟨d,m,e,f,b⟩);have f1:∀G a,aY I C.B G a->bB w w' a:=λG a T=>.of_heap (l.heap a (N.ib a (kN T)) (λd m e f b=>by
  obtain⟨d,_,e,f,p,_⟩:=Q a ⟨d,m,e,f,b⟩;exact N.notM f a p G T))
 obtain⟨_,a4,gs,gt⟩:=l.tree id _ V;obtain⟨y,is,_,d7,_⟩:=l.keep _ o ⟨n,z⟩ (by rw[py,al rfl]);simp only[kl] at d7;rw[d7] at a4;have cv:∀a,bB w w' a->oB w w' co n.size a:=λa b=>⟨λq _=>(b.1 q).1,λq=>(b.1 q).2,λq=>by rw[(b.1 q).1],b.2⟩;obtain⟨ii,dl,gf,_,go,_,a0,_,gl⟩:=fT w' (aY I' C.B) H X (K id) u (λG a c=>by cases G;exact l.i a c;exact c.imp (l.i a) (λb=>b)) (by
   rintro a (⟨G,T⟩|c|⟨a3,f9⟩)
   ·exact cv a (f1 G a T)
   ·exact cv a (.of_heap (ad a c))
   cases f9) a4 (λ_ _=>rfl)
  (λa a3 d2=>by
   have c:a∈x:=by
    rcases fz a a3 d2 with⟨_,b,_⟩|b
    ·cases b
    exact b
   exact(ft a a3 d2).1.dV (.of_heap (ad a c))) d6
 obtain rfl:=go rfl (.inr rfl);have Z:∀a∈dl,a∈K id\/a∈x:=λa c=>eI.1 (a0.mem_iff.1 c);have av:∀k e,ak J k=some e->∀a∈K k,a∉x:=λk e o a c d5=>by
  rcases((l.tree k e o).2.2.2 a c).2.2 with b|b
  ·exact absurd (E a d5).1 U
  exact(E a d5).2 b
 have ap:∀k y,ak ((id,(⟨F.1,u⟩:az))::J) k=some y->(k=id/\y=⟨F.1,u⟩)\/(k≠id/\ak J k=some y):=λk y o=>by
  rw[bG] at o;split at o
  ·rename_i g;exact .inl ⟨g.symm,(dp o).symm⟩
  rename_i g;exact .inr ⟨λL=>g L.symm,o⟩
 have an:∀a,(w.heap.size<=a\/∃d∈s,∃e,ak ((id,(⟨n,z⟩:az))::del [id] st.h) d=some e/\a∈hX fp id r d)->w.heap.size<=a\/∃d∈s,∃e,ak st.h d=some e/\a∈fp d:=λa b=>b.imp (λb=>b) (λb=>by
  obtain⟨d,m,e,f,p,_⟩:=Q a b;exact⟨d,m,e,f,p⟩)
 refine⟨hX W id (rt id),hX K id dl,⟨l.size,l.os,l.tape,l.output,?_,l.evo,l.i,?_,?_,?_,?_,?_⟩,λk o=>ix o⟩
 ·intro a c f5;refine l.heap a c (λd m e f b=>?_);obtain⟨d,m,e,f,p,_⟩:=Q a ⟨d,m,e,f,b⟩;exact f5 d m e f p
 ·intro a c;exact(l.i2 a c).imp (λb=>b) (λb=>⟨b.1,an a b.2⟩)
 ·intro k y o;rcases ap k y o with⟨rfl,rfl⟩|⟨p,D⟩
  ·rw[kl,kl];refine⟨.inl d0,gf,?_,λa c=>?_⟩
   ·rw[a0.nodup_iff,hu];exact⟨gs,d4.2.1,λeq f2 a c g=>av k _ V eq f2 (g▸c)⟩
   rcases Z a c with c|c
   ·obtain⟨bl,bs,ce⟩:=gt a c;exact⟨bl,bs,an a ce⟩
   have O:a∈fp k:=M.mem_iff.2 (by simp[c]);refine⟨λm=>?_,fF (E a c).1 l.size,.inr ⟨k,d0,F,v,O⟩⟩;rcases l.i2 a m with b|⟨_,b|b⟩
   ·exact(el a O).1 b
   ·exact absurd (E a c).1 U
   exact(E a c).2 b
  rw[ix p,ix p];obtain⟨hi,bl,bs,ce⟩:=l.tree k y D;refine⟨hi.imp (λb=>b) (λb=>?_),bl,bs,λa c=>?_⟩
  ·have b:ak ((id,(⟨n,z⟩:az))::del [id] st.h) k=none:=b;rw[py,ah (λg=>p g.symm)] at b;exact b
  obtain⟨v1,eu,ci⟩:=ce a c;exact⟨v1,eu,an a ci⟩
 ·intro d q hr hs m f6 S a c;rcases ap d hr m with⟨rfl,rfl⟩|⟨p,D⟩<;>rcases ap q hs f6 with⟨rfl,rfl⟩|⟨ds,Y⟩
  ·exact absurd rfl S
  ·rw[kl] at c;rw[ix ds];rcases Z a c with c|c
   ·exact l.dis d q _ _ V Y S a c
   exactλb=>av q _ Y a b c
  ·rw[ix p] at c;rw[kl];intro b;rcases Z a b with b|b
   ·exact l.dis d q _ _ D V S a c b
   exact av d _ D a c b
  rw[ix p] at c;rw[ix ds];exact l.dis d q _ _ D Y S a c
 ·intro g t e f;rcases dk.1 t with rfl|t
  ·rw[v] at f;cases f;exact⟨⟨F.1,u⟩,by rw[bG,al rfl],rfl,kl,⟨_,d3.ty⟩,gl⟩
  by_cases ai:g.1=id
  ·rw[ai,v] at f;cases f;refine⟨⟨F.1,u⟩,by rw[bG,al ai.symm],rfl,by rw[ai];exact kl,⟨F.1,by rw[am g t];cases F.1<;>rfl⟩,λd8 _ _ _ o=>?_⟩;rw[am g t,yC] at o;cases o
  obtain⟨v1,eu,ci,v4,hv,zC⟩:=l.keep g t e (by rw[py,ah (λb=>ai b.symm)];exact f);rw[ix ai] at v4 zC;exact⟨v1,by rw[bG,ah (λb=>ai b.symm)];exact eu,ci,by rw[ix ai];exact v4,hv,zC⟩
 intro g t e f d8 i8 i3 i0 hw io R f8 f7 d1 gc;rcases dk.1 t with rfl|t
 ·rw[v] at f;cases f;refine⟨⟨F.1,u⟩,by rw[bG,al rfl],qG R d6 d1,λcs f3=>?_⟩;obtain⟨aq,a4⟩:=f0 d8 _ _ _ _ _ R (by exact f8) d1 f7 gc cs f3;rw[kl];exact⟨a0.mem_iff.2 (ku _ aq),.of_heap (ad cs aq)⟩
 rw[am g t,qF] at R;cases R
def c5.sub {s:Oper} {r:List ag} {d W:Array _} (d2:s.op=.call {callee:=.value m,args:=d,argTypes:=W}) (ex:aI st.g m=.bZ l r) (ci:s.dst=some b) (co:C.ok b) (bs:∀(V:cG) (w:World),(callFunc l V).run E.P w=.ok (.enter l V) w) {a:List e7} (bl:oA E l a S) (d8:ms 0 a=none) (ad:∀j,C.I0 j\/C.B j->j<C.w0.heap.size/\¬C.F0 j) (am:iA E C.I0 C.w0) {id:Nat} (q:ak st.h id=some F) {p:List aO} {v:n.den} (O:bN F.1 F.2 (T::p) n v) {H:cL} (d9:pR (d.toList.map (aI st.g)++r) H=some (id,T::p)) (a3:L=jK id (d.toList.map (aI st.g)++r) H) (a0:lJ ((id,⟨n,v⟩)::del [id] st.h) (dZ L a) L a) (A:kE b ⟨[],(id,⟨n,v⟩)::del [id] st.h⟩ L a S=true) (ap:id∈dZ L a) (an:id∈jG L a) {y':n.den} {z:F.1.den} (ds:ak (hq L a++gz b (gd S) 0 S) id=some ⟨n,y'⟩) (d7:df F.1 F.2 (T::p) n y' z) (o:u ⟨(b,rh b S)::kill (dZ L a) ((id,T::p)::sC (jG L a)) st.g,((id,⟨F.1,z⟩)::(hq L a++gz b (gd S) 0 S))++del (dZ L a) st.h⟩):c5 E C s st u:=by
 rintro c w ⟨I,rt,fp,e⟩ next f0 d1
 obtain⟨i,eq,Z⟩:∃i:cG,c.eval m=.func (.func l) #[] i/\fY (bk (aY I C.B) w st.h rt fp) r i.toList:=by
  have G:=e.aI m;rw[ex] at G;generalize f4:c.eval m=f9 at G;cases G with|bZ dl cv=>
  exact⟨_,rfl,wE (by simpa using dl) (λU c j D x=>cv U c j D (by simpa using x))⟩
 have a4:fY (bk (aY I C.B) w st.h rt fp) (d.toList.map (aI st.g)++r) (d.toList.map c.eval++i.toList):=z2 (z5 (λm=>e.aI m) _) Z;obtain⟨fs,ft,f5⟩:=e.tree id F q;obtain⟨fT,f1,_,_,J,_⟩:=yq (T::p) (loc:=none) fs (λ_ _ o=>by cases o) ft (λ_ _ o=>by cases o) (e.notM q) O;obtain⟨Y,f6,aq,fn,d3⟩:=kz.Rq e q O J;have M:=e.split q aq fn;have N:=Ke (y:=v) (f:=Y) e q J a4 d9;rw[<-a3] at N;have ce:=M.call N bl a0 A (λ_ _=>by rw[d8];trivial) (M.glob ad am);have d6:(execOp c.eval s).run E.P w=.ok (.enter l (d.toList.map c.eval++i.toList).toArray) w:=(by have ai:d.map c.eval=(d.toList.map c.eval).toArray:=(by rw[<-Array.toList_map]);have X:(d.toList.map c.eval++i.toList).toArray=(d.toList.map c.eval).toArray++i:=ab;rw[X];simp only[execOp,d2,resolve,ai,Sem.run_bind,eq,Deferred.ofValue,Sem.run_pure,Result.andThen_ok,invoke,Array.empty_append,Array.append_empty];exact bs _ _);unfold Oper.wp;rw[d6];show Calls E.P l _ w _;refine ce.mono ?_;rintro k w' ⟨I',f7,f2,fz,rfl,el,d4⟩;show next (c.put s.dst (m8 fz)) w'
 rw[ci];obtain⟨f8,f3,em,d5⟩:=d3 el ap ds (c4.2 ⟨id,an,rfl⟩) (λk cs=>by obtain⟨U,_,rfl⟩:=c4.1 cs;rfl) d7;simp only[kE,a5,ew] at A;have d0:=gY.ok A.1.2;refine d1 _ _ _ o rfl ⟨I',_,_,(e.eT em).put co (av:=rh b S) (d4 _ _ _ (λt R=>?_))⟩;have D:=HY d0 t R;have x:=A.2 t R;have Q:t.1≠id:=λk=>(by rw[k,py,al rfl] at x;cases x);have K:ak ((id,(⟨F.1,z⟩:az))::(hq L a++gz b (gd S) 0 S)) t.1=some t.2:=(by rw[bG,ah (λk=>Q k.symm)];exact D);refine⟨by rw[hQ,K];rfl,?_⟩;simp only[de,K];exact d5 _ Q
end
end
section
def hd:Nat->List e7->List (Nat×ag)
 |_,[]=>[]
 |k,.v b::a=>(k,.val b.1 b.2)::hd (k+1) a
 |k,.m _ _::a=>(k,.ref k [])::hd (k+1) a
 |k,.o _::a=>(k,.ref k [])::hd (k+1) a
 |k,.n::a=>(k,.bD (.slice none 0 0))::hd (k+1) a
 |k,.w _ _ e d _::a=>(k,.view k [] e d)::hd (k+1) a
 |k,.s _ _::a=>hd (k+1) a
 |k,.c f g::a=>(k,.bZ f (g.map λb=>.val b.1 b.2))::hd (k+1) a
def hx:Nat->List e7->List (Nat×az)
 |_,[]=>[]
 |k,.v _::a=>hx (k+1) a
 |k,.m b _::a=>(k,b)::hx (k+1) a
 |k,.o b::a=>(k,b)::hx (k+1) a
 |k,.w e d _ _ _::a=>(k,⟨.osl e,d⟩)::hx (k+1) a
 |k,.c _ _::a=>hx (k+1) a
 |k,.n::a=>hx (k+1) a
 |k,.s _ _::a=>hx (k+1) a
def fe:Nat->List e7->cO
 |_,[]=>[]
 |k,.m _ _::a=>k::fe (k+1) a
 |k,.w _ _ _ _ _::a=>k::fe (k+1) a
 |k,_::a=>fe (k+1) a
def qj (a:c8):Option cl->Prop
 |none=>True
 |some (c,g,d)=>c∈a.pin/\(∀h∈d,h∈a.pin)/\∃b e f,a.vs c=.pointer (some ⟨b,e,none⟩)/\b<a.w0.heap.size/\¬a.F0 b/\a.w0.cell? ⟨b,e,none⟩=some (.func (.func g) #[] f)/\f.toList=d.map a.vs
def kW:Option cl->cO
 |none=>[]
 |some (a,_,b)=>a::b
def oK (j:Program) (e:aB) (a:az):ResultVar->cO->Prop
 |.tmp m,c=>match gt e.g m with
  |.val i n=>(⟨i,n⟩:az)=a/\c=[]
  |.bD f=>gr a.1 f.cells.toList=some a.2/\bp a.1 f.cells.toList=f/\c=[]
  |.ref id d=>c=[id]/\∃b,ak e.h id=some b/\bN b.1 b.2 d a.1 a.2
  |_=>False
 |.cell l k,c=>dm j a.1 k/\match gt e.g l with
  |.ref id d=>c=[id]/\∃b i,ak e.h id=some b/\dn b.1 d=some (.optr i)/\bN b.1 b.2 (d++[.deref]) a.1 a.2
  |_=>False
def qh (b:Program) (d:aB):List ResultVar->List az->cO->Prop
 |[],[],a=>a=[]
 |r::f,e::g,a=>e.1.dS=true/\∃i1 c,a=i1++c/\oK b d e r i1/\qh b d f g c
 |_,_,_=>False
def mH (a:aB):Nat->List e7->Prop
 |_,[]=>True
 |k,.m c l::b=>(gt a.g k=.ref k []/\ak a.h k=some ⟨c.1,l⟩/\c.1.dS=true/\oy c.1=true)/\mH a (k+1) b
 |k,.w i j e d f::b=>(gt a.g k=.view k [] e d/\ak a.h k=some ⟨.osl i,f⟩/\(i.dS=true/\e<d)/\f.length=j.length)/\mH a (k+1) b
 |k,_::b=>mH a (k+1) b
def Dc (e:Program) (a:List e7) (g:List ResultVar) (f:List az) (b:Exit) (d:aB):Prop:=
 (b=.normal\/b=.ret)/\∃c,qh e d g f c/\gY (fe 0 a++c)=true/\mH d 0 a
section
variable {E:dz}
def KW {i:Nat->Prop} (f:fY (tq i B v) S H):bk (aY i B) v e z A (.bZ b (S.map λc=>.val c.1 c.2)) (.func (.func b) #[] H.toArray):=by
 have k:=DE f;refine .bZ (by simpa using k.symm) (λd o h a g=>?_);have j:∀{S:List az} {H:cI} {d:Nat} {c:az} {h:Value},fY (tq i B v) S H->S[d]?=some c->H[d]?=some h->tq i B v c h:=by
  intro S
  induction S with
  |nil=>intro H d c h _ a;simp at a
  |cons r S n=>
   intro H d c h f a g;cases H with
   |nil=>exact f.elim
   |cons q H=>
    cases d with
    |zero=>simp only[iF,bH] at a g;subst a g;exact f.1
    |succ d=>exact n f.2 (by simpa using a) (by simpa using g)
 rw[gn] at a;obtain⟨c,m,rfl⟩:=dH.1 a;obtain⟨p,rfl,l⟩:=j f m (by simpa using g);exact .val l
def DW {r q:Nat->Prop} {w:World}:∀{k:Nat} {d:List e7} {G:cI} {z:cD},jy (tj r q w) d G z->∃(h:Nat->cI) (f:Nat->cO),(∀id b,ak (hx k d) id=some b->k<=id/\(∃x,z[id-k]?=some x/\f id=x)/\aG (aY r q) w b.1 (h id) b.2 (f id))/\(∀a,gt (hd k d) (k+a)=.dead\/∃v,G[a]?=some v/\bk (aY r q) w (hx k d) h f (gt (hd k d) (k+a)) v)/\(∀a,a<k->gt (hd k d) a=.dead)
 |k,[],G,z,p=>⟨λ_=>[],λ_=>[],(λid b p=>by cases p),λa=>.inl rfl,λa _=>rfl⟩
 |k,l::d,[],z,p=>p.elim
 |k,l::d,v::G,[],p=>p.elim
 |k,l::d,v::G,x::z,p=>by
  obtain⟨C,ad⟩:=p;obtain⟨h,f,i1,M,D⟩:=DW (k:=k+1) ad;have L:∀id b,ak (hx (k+1) d) id=some b->k<=id/\(∃y,(x::z)[id-k]?=some y/\f id=y)/\aG (aY r q) w b.1 (h id) b.2 (f id):=λid b u=>(by obtain⟨aq,⟨y,e,R⟩,av⟩:=i1 id b u;exact⟨U,⟨y,by rw[(U:id-k=(id-(k+1))+1),nx];exact e,R⟩,av⟩);have Q:∀(b:az) (t:cI) (N:ag),(∀(B:List (Nat×az)) (F:Nat->cI) (J:Nat->cO),ak B k=some b->F k=t->bk (aY r q) w B F J N v)->aG (aY r q) w b.1 t b.2 x->hx k (l::d)=(k,b)::hx (k+1) d->hd k (l::d)=(k,N)::hd (k+1) d->_:=λb t N g j ai V=>by
   refine(⟨λK=>if K=k then t else h K,λK=>if K=k then x else f K,?_,?_,?_⟩:∃(h:Nat->cI) (f:Nat->cO),(∀id b,ak (hx k (l::d)) id=some b->k<=id/\(∃y,(x::z)[id-k]?=some y/\f id=y)/\aG (aY r q) w b.1 (h id) b.2 (f id))/\(∀a,gt (hd k (l::d)) (k+a)=.dead\/∃i,(v::G)[a]?=some i/\bk (aY r q) w (hx k (l::d)) h f (gt (hd k (l::d)) (k+a)) i)/\(∀a,a<k->gt (hd k (l::d)) a=.dead))
   ·intro id S u;rw[ai,bG] at u;split at u
    ·rename_i O;subst O;obtain rfl:=dp u;refine⟨a2 _,⟨x,ab,ab⟩,by simp only[if_true];exact j⟩
    rename_i O;obtain⟨aq,e,R⟩:=L id S u;have I:¬id=k:=λp=>O p.symm;exact⟨aq,by simp only[ah I];exact e,by simp only[ah I];exact R⟩
   ·intro a;rw[V,gw];cases a with
    |zero=>
     right;refine⟨v,rfl,?_⟩;rw[al U];exact g _ _ _ (by rw[ai,bG,al rfl]) (by simp only[if_true])
    |succ a=>
     rw[ah U,(U:k+(a+1)=k+1+a)];refine(M a).imp id ?_;rintro⟨i,aq,e⟩;refine⟨i,by simpa using aq,?_⟩;refine e.pE (λm H am=>⟨am,bB.refl w H⟩) (λid _ S u=>?_);obtain⟨bs,_,a0⟩:=i1 id S u;have I:¬id=k:=U;have Z:¬k=id:=U;exact⟨by rw[ai,bG,ah Z];exact u,by simp only[ah I],by simp only[ah I],a0,λH _=>bB.refl w H⟩
   intro a A;rw[V,gw,ah U];exact D a U
  cases l with
  |v b=>
   obtain⟨rfl,t,g,j⟩:=C;refine⟨h,f,L,λa=>?_,λa A=>?_⟩
   ·show gt ((k,_)::_) _=_\/_;rw[gw];cases a with
    |zero=>
     right;refine⟨v,rfl,?_⟩;show bk _ _ _ _ _ (gt ((k,_)::_) _) _;rw[gw,al U,g];exact .val j
    |succ a=>
     rw[ah U,(U:k+(a+1)=k+1+a)];refine(M a).imp id ?_;rintro⟨i,aq,e⟩;refine⟨i,by simpa using aq,?_⟩;show bk _ _ _ _ _ (gt ((k,_)::_) _) _;rw[gw,ah U];exact e
   show gt ((k,_)::_) _=_;rw[gw,ah U];exact D a U
  |n=>
   obtain⟨rfl,g⟩:=C;refine⟨h,f,L,λa=>?_,λa A=>?_⟩
   ·show gt ((k,_)::_) _=_\/_;rw[gw];cases a with
    |zero=>
     right;refine⟨v,rfl,?_⟩;show bk _ _ _ _ _ (gt ((k,_)::_) _) _;rw[gw,al U,g];exact .bD _
    |succ a=>
     rw[ah U,(U:k+(a+1)=k+1+a)];refine(M a).imp id ?_;rintro⟨i,aq,e⟩;refine⟨i,by simpa using aq,?_⟩;show bk _ _ _ _ _ (gt ((k,_)::_) _) _;rw[gw,ah U];exact e
   show gt ((k,_)::_) _=_;rw[gw,ah U];exact D a U
  |s a3 a4=>
   refine⟨h,f,L,λa=>?_,λa A=>D a U⟩;cases a with
   |zero=>exact .inl (D k U)
   |succ a=>
    have A:=M a;rw[(U:k+1+a=k+(a+1))] at A;refine A.imp id ?_;rintro⟨i,aq,e⟩;exact⟨i,by simpa using aq,e⟩
  |c n ce=>
   obtain⟨rfl,ci,g,j⟩:=C;refine⟨h,f,L,λa=>?_,λa A=>?_⟩
   ·show gt ((k,_)::_) _=_\/_;rw[gw];cases a with
    |zero=>
     right;refine⟨v,rfl,?_⟩;show bk _ _ _ _ _ (gt ((k,_)::_) _) _;rw[gw,al U,g];exact KW j
    |succ a=>
     rw[ah U,(U:k+(a+1)=k+1+a)];refine(M a).imp id ?_;rintro⟨i,aq,e⟩;refine⟨i,by simpa using aq,?_⟩;show bk _ _ _ _ _ (gt ((k,_)::_) _) _;rw[gw,ah U];exact e
   show gt ((k,_)::_) _=_;rw[gw,ah U];exact D a U
  |m b co=>obtain⟨t,g,j⟩:=C;exact Q b t (.ref k []) (λB F J aq e=>by subst g;exact .ref (loc:=none) aq (by rw[e];exact aJ.here)) j rfl rfl
  |o b=>obtain⟨t,g,j⟩:=C;exact Q b t (.ref k []) (λB F J aq e=>by subst g;exact .ref (loc:=none) aq (by rw[e];exact aJ.here)) j rfl rfl
  |w Y X E P cs=>
   obtain⟨H,o,T,g,⟨bl,an,ap⟩,j⟩:=C;refine Q ⟨.osl Y,X⟩ _ (.view k [] E P) (λB F J aq e=>?_) j rfl rfl;have W:bk (aY r q) w B F J (.view k [] E P) (.slice (some ⟨H,if T=E then o else o+E*Y.size,none⟩) (P-E) (T-E)):=.view (loc:=none) (len:=X.length) aq (by rw[e];exact aJ.here) U an ap;rw[ah U] at W;rw[g];exact W
def OZ {f:cD} (h:f.flatten.Nodup):(∀(a:Nat) b,f[a]?=some b->b.Nodup)/\∀(a c:Nat) b g,f[a]?=some b->f[c]?=some g->a≠c->∀e∈b,e∉g:=by
 induction f with
 |nil=>exact⟨λa b h=>by simp at h,λa c b g h=>by simp at h⟩
 |cons r f q=>
  simp only[iE,hu] at h;obtain⟨m,n,l⟩:=h;obtain⟨i1,p⟩:=q n;refine⟨λa b d=>?_,λa c b g d i o e j k=>?_⟩
  ·cases a with
   |zero=>simp only[iF,bH] at d;subst d;exact m
   |succ a=>exact i1 a b (by simpa using d)
  cases a with
  |zero=>
   cases c with
   |zero=>exact o rfl
   |succ c=>
    simp only[iF,bH] at d;subst d;exact l e j e (hE.2 ⟨g,j0 (by simpa using i),k⟩) rfl
  |succ a=>
   cases c with
   |zero=>
    simp only[iF,bH] at i;subst i;exact l e k e (hE.2 ⟨b,j0 (by simpa using d),j⟩) rfl
   |succ c=>exact p a c b g (by simpa using d) (by simpa using i) U e j k
def vJ (b:cG):ResultVar->Sem Value
 |.tmp a=>Pure.pure (b.getD a undef)
 |.cell c a=>do loadVar a (<-asAddr (b.getD c undef))
def Sj {e:Func} (g:e.results=M.toArray) (c:cG) (a:World) (h:(M.mapM (vJ c)).run s a=.ok H a):(results e c).run s a=.ok (m8 H) a:=by
 unfold results;simp only[Sem.run_bind,g];rw[Array.mapM_eq_mapM_toList,Sem.run_map];have i:∀b:ResultVar->Sem Value,(∀d,b d=vJ c d)->(M.mapM b).run s a=.ok H a:=λb f=>(by rw[show b=vJ c from funext f];exact h);rw[i _ (λd=>by cases d<;>rfl)];simp only[Result.andThen_ok,Sem.run_pure];congr 1
 match H with
 |[]=>rfl
 |[r]=>rfl
 |r::k::j=>simp[m8]
def oK.rep {L:c8} {e:cG} {H:Nat->Prop} (t:bi L i e v H z A) (J:F.1.dS=true) {d:ResultVar} (a:oK s i F d g):∃r M,(vJ e d).run s v=.ok r v/\ws H v F r M/\(∃am,(g.map A).flatten.Perm (M++am))/\∀id∈g,∃F,ak i.h id=some F:=by
 have N:∀(id:Nat) (f:az) (n:List aO),ak i.h id=some f->bN f.1 f.2 n F.1 F.2->∃q k j o,aJ v f.1 none (z id) n F.1 q k/\aG (aY H L.B) v F.1 k F.2 j/\mG v q k F.1.size/\(A id).Perm (j++o):=(by intro id f n c u;obtain⟨aq,K,av⟩:=t.tree id _ c;obtain⟨q,k,j,o,D,p,G,E,_⟩:=yq n (τ':=F.1) (y:=F.2) aq (loc:=none) (λ_ _ a=>by cases a) K (λ_ _ a=>by cases a) (t.notM c) u;exact⟨q,k,j,o,D,p,G,E⟩);cases d with
 |tmp d=>
  have b:=t.tmp d;simp only[oK] at a;split at a
  ·rename_i ap a3 l;rw[l] at b;obtain⟨rfl,rfl⟩:=a;generalize m:e.getD d undef=r at b;cases b with|val an=>
   exact⟨_,[],by show(Pure.pure (e.getD d undef):Sem Value).run s v=_;rw[m];rfl,⟨_,rfl,an.dS J⟩,⟨[],ab⟩,ab⟩
  ·rename_i r l;rw[l] at b;obtain⟨aq,K,rfl⟩:=a;generalize m:e.getD d undef=a0 at b;cases b;exact⟨_,[],by show(Pure.pure (e.getD d undef):Sem Value).run s v=_;rw[m];rfl,⟨_,K.symm,mR aq⟩,⟨[],ab⟩,ab⟩
  ·rename_i id n l;rw[l] at b;obtain⟨rfl,f,c,u⟩:=a;generalize m:e.getD d undef=r at b;cases b with|ref C x=>
   rw[c] at C;cases C;obtain⟨q,k,j,o,D,p,G,E⟩:=N id f n c u;obtain⟨rfl,rfl,rfl⟩:=x.hn D;refine⟨_,j,by show(Pure.pure (e.getD d undef):Sem Value).run s v=_;rw[m];rfl,⟨_,rfl,p.dS J⟩,⟨o,by simpa using E⟩,λZ w=>?_⟩;rw[eV] at w;subst w;exact⟨_,c⟩
  exact a.elim
 |cell I O=>
  have b:=t.tmp I;simp only[oK] at a;obtain⟨V,a⟩:=a;split at a
  ·rename_i id n l;rw[l] at b;obtain⟨rfl,f,ap,c,Y,u⟩:=a;generalize m:e.getD I undef=r at b;cases b with|ref C x=>
   rw[c] at C;cases C;have:=x.ty;rw[Y] at this;cases this;obtain⟨P,ad,S,rfl,Q,R⟩:=mh (t.tree id _ c).1 x;have X:=x.append (aJ.AE Q R);obtain⟨q,k,j,o,D,p,G,E⟩:=N id f _ c u;obtain⟨ai,T,U⟩:=X.hn D;subst T;subst U;subst ai;have W:=(G P ad rfl).1;refine⟨bp F.1 S,j,?_,⟨_,rfl,p.dS J⟩,⟨o,by simpa using E⟩,λZ w=>?_⟩
   ·show(do loadVar O (<-asAddr (e.getD I undef)):Sem Value).run s v=_;rw[m];simp only[bp,List.headD,asAddr,Sem.run_bind,Sem.run_pure,Result.andThen_ok];exact In V W p.len
   rw[eV] at w;subst w;exact⟨_,c⟩
  exact a.elim
def qh.rep {k:Program} {t:c8} {g:aB} {s:cG} {f w0:World} {j:Nat->Prop} {H:Nat->cI} {m:Nat->cO} (n:bi t g s f j H m):∀{e:List ResultVar} {p:List az} {a:cO},qh k g e p a->∃vs d,(e.mapM (vJ s)).run k f=.ok vs f/\jy (ws j f) p vs d/\(∃F,(a.map m).flatten.Perm (d.flatten++F))/\∀id∈a,∃i,ak g.h id=some i
 |[],[],a,b=>by obtain rfl:a=[]:=b;exact⟨[],[],rfl,trivial,⟨[],.refl _⟩,ab⟩
 |[],i::I,a,b=>b.elim
 |r::e,[],a,b=>b.elim
 |r::e,i::I,a,b=>by
  obtain⟨E,i1,K,rfl,C,D⟩:=b;obtain⟨J,l,u,v,⟨G,w⟩,x⟩:=C.rep n E;obtain⟨vs,d,y,z,⟨q,A⟩,B⟩:=qh.rep (w0:=w0) n D;refine⟨J::vs,l::d,?_,⟨v,z⟩,⟨G++q,?_⟩,λo c=>?_⟩
  ·simp only[List.mapM_cons,Sem.run_bind,u,Sem.run_pure,Result.andThen_ok,y]
  ·simp only[h6,oE,iE];refine(w.append A).trans ?_;rw[k6,k6];refine List.Perm.append_left l ?_;rw[<-k6,<-k6];exact List.Perm.append_right q List.perm_append_comm
  rcases eI.1 c with c|c
  ·exact x o c
  exact B o c
def DX:∀{k:Nat} {args:List e7},∀b∈fe k args,k<=b
 |k,[],b,a=>by cases a
 |k,f::args,b,a=>by
  have d:=DX (k:=k+1) (args:=args);cases f with
  |m e q=>
   rcases dk.1 a with rfl|a
   ·exact a2 _
   have:=d b a;omega
  |w t p j h r=>
   rcases dk.1 a with rfl|a
   ·exact a2 _
   have:=d b a;omega
  |v e=>have:=d b a;omega
  |o e=>have:=d b a;omega
  |c n l=>have:=d b a;omega
  |n=>have:=d b a;omega
  |s g i=>have:=d b a;omega
def mH.rep {S:c8} {C:aB} {F:cG} {w:World} {G:Nat->Prop} {M:Nat->cI} {u:Nat->cO} (x:bi S C F w G M u) {B:Nat->Prop}:∀{k:Nat} {g:List e7} {vs:cI},mH C k g->vs.length=g.length->(∀e,e∈fe k g->∀v,vs[e-k]?=some v->F.getD e undef=v)->∃d,jy (tk G B w) g vs d/\d.flatten=((fe k g).map u).flatten/\∀id∈fe k g,k<=id/\∃t,ak C.h id=some t
 |k,[],vs,i,y,z=>by cases vs with
  |nil=>exact⟨[],trivial,rfl,by simp[fe]⟩
  |cons=>cases y
 |k,H::g,[],i,y,z=>by cases y
 |k,H::g,v::vs,i,y,z=>by
  have r:mH C (k+1) g->(∀e,e∈fe (k+1) g->e∈fe k (H::g))->∃d,jy (tk G B w) g vs d/\d.flatten=((fe (k+1) g).map u).flatten/\∀id∈fe (k+1) g,k+1<=id/\∃t,ak C.h id=some t:=λi Y=>by
   have W:=DX (k:=k+1) (args:=g);exact mH.rep x i (by simpa using y) (λe f ap Z=>z e (Y e f) ap (by
    have:=W e f;rw[(U:e-k=(e-(k+1))+1),nx];exact Z))
  cases H with
  |v t=>
   obtain⟨d,j,l,b⟩:=r i (λe f=>f);exact⟨[]::d,⟨rfl,j⟩,by simpa[fe] using l,λid a=>⟨by have:=(b id a).1;omega,(b id a).2⟩⟩
  |o t=>
   obtain⟨d,j,l,b⟩:=r i (λe f=>f);exact⟨[]::d,⟨rfl,j⟩,by simpa[fe] using l,λid a=>⟨by have:=(b id a).1;omega,(b id a).2⟩⟩
  |n=>
   obtain⟨d,j,l,b⟩:=r i (λe f=>f);exact⟨[]::d,⟨rfl,j⟩,by simpa[fe] using l,λid a=>⟨by have:=(b id a).1;omega,(b id a).2⟩⟩
  |s bs ci=>
   obtain⟨d,j,l,b⟩:=r i (λe f=>f);exact⟨[]::d,⟨rfl,j⟩,by simpa[fe] using l,λid a=>⟨by have:=(b id a).1;omega,(b id a).2⟩⟩
  |c n d1=>
   obtain⟨d,j,l,b⟩:=r i (λe f=>f);exact⟨[]::d,⟨rfl,j⟩,by simpa[fe] using l,λid a=>⟨by have:=(b id a).1;omega,(b id a).2⟩⟩
  |m t d2=>
   obtain⟨⟨K,q,L,ad⟩,i⟩:=i;obtain⟨d,j,l,b⟩:=r i (λe f=>eJ _ f);have p:=x.tmp k;rw[K] at p;have J:F.getD k undef=v:=z k (by simp[fe]) v ab;rw[J] at p;obtain⟨E,_⟩:=x.tree k _ q;refine⟨u k::d,⟨?_,j⟩,by simp only[fe,eH,iE,l],λid a=>?_⟩
   ·cases p with|ref A I=>
    rw[q] at A;cases A;obtain⟨rfl,rfl,rfl⟩:=aJ.en.1 I;exact⟨M k,rfl,E.dS L⟩
   rcases dk.1 a with rfl|a
   ·exact⟨a2 _,_,q⟩
   exact⟨by have:=(b id a).1;omega,(b id a).2⟩
  |w R av co ce a0=>
   obtain⟨⟨K,q,⟨L,ad⟩,am⟩,i⟩:=i;obtain⟨d,j,l,b⟩:=r i (λe f=>eJ _ f);have p:=x.tmp k;rw[K] at p;have J:F.getD k undef=v:=z k (by simp[fe]) v ab;rw[J] at p;obtain⟨E,_⟩:=x.tree k _ q;refine⟨u k::d,⟨?_,j⟩,by simp only[fe,eH,iE,l],λid a=>?_⟩
   ·cases p with
    |jm=>omega
    |view A I aq cv dl=>
    rename_i d0 d3 cs N P an O;rw[q] at A;cases A;obtain⟨ai,bl,T⟩:=aJ.en.1 I;simp only[af.osl.injEq] at ai;subst ai;have D:M k=[.slice (some ⟨N,P,none⟩) an O]:=T;have X:=E;obtain⟨a3,a4,Q,ds⟩:=X;rw[Q] at D;simp only[fd,Value.slice.injEq,and_true] at D;refine⟨N,P,O,by rw[ah U],U,?_⟩;have:=aG.dS (τ:=.osl R) (B':=B) L E;rw[Q,D.1,D.2.2] at this;have V:List.length (α:=R.den) a0=av.length:=am;rw[<-V];exact this
   rcases dk.1 a with rfl|a
   ·exact⟨a2 _,_,q⟩
   exact⟨by have:=(b id a).1;omega,(b id a).2⟩
def oA.Pa {o:FuncId} {m:Func} {c:Code} {e:List e7} (d9:E.P.funcs[o]?=some m) (d:m.body=some c) (fp:m.results=M.toArray) (gf:e.length<=m.ntmps) (b:∀f:c8,f.n=m.ntmps->f.pin=fe 0 e++kW (ms 0 e)->(∀a,f.I0 a\/f.B a->a<f.w0.heap.size/\¬f.F0 a)->qj f (ms 0 e)->iA E f.I0 f.w0->J E f c ⟨hd 0 e,hx 0 e⟩ (Dc E.P e M S)):oA E o e S:=by
 intro x y G l K av am ex N a3 el;obtain⟨ft,ge⟩:=z6 am;obtain⟨cv,Y,I,d0,f9⟩:=DW (k:=0) am
 let f:c8:={I0:=y,B:=G,F0:=λa=>a∈K.flatten,w0:=x,n:=m.ntmps,pin:=fe 0 e++kW (ms 0 e),vs:=λi=>l.getD i undef}
 have bl:∀i,(l.toArray++Array.replicate (m.ntmps-l.toArray.size) undef).getD i undef=l.getD i undef:=by
  intro i;rw[wc,h5];rcases bj i l.length with Q|Q
  ·rw[Array.getElem?_append,al (by simpa using Q)];simp
  rw[Array.getElem?_append,ah (by simp;omega),hD Q,Array.getElem?_replicate];split<;>rfl
 obtain⟨fz,fT⟩:=OZ ex;have d4:bi f ⟨hd 0 e,hx 0 e⟩ (l.toArray++Array.replicate (m.ntmps-l.toArray.size) undef) x y cv Y:=by
  refine{n:=?_,i0:=λ_ b=>b,i1:=λ_ b=>.inl b,ib:=av,tree:=?_,dis:=?_,tmp:=?_,frame:=λ_ _ _=>rfl,evo:=λ_ _=>.refl _ _,size:=a2 _,os:=rfl,tape:=rfl,output:=rfl,pin:=λi _=>bl i}
  ·simp only[Array.size_append,oI,Array.size_replicate];show _=m.ntmps;omega
  ·intro id j v;obtain⟨_,⟨o,aq,t⟩,T⟩:=I id j v;rw[Nat.sub_zero] at aq;refine⟨T,by rw[t];exact fz id o aq,λa d=>?_⟩;rw[t] at d;have q:a∈K.flatten:=hE.2 ⟨o,j0 aq,d⟩;obtain⟨C,U,f3⟩:=N a q;exact⟨C,U,f3,.inr q⟩
  ·intro ce s j f7 em u eq a d an;obtain⟨_,⟨o,aq,t⟩,_⟩:=I ce j em;obtain⟨_,⟨d1,C,U⟩,_⟩:=I s f7 u;rw[Nat.sub_zero] at aq C;rw[t] at d;rw[U] at an;exact fT ce s o d1 aq C eq a d an
  intro i;show bk _ _ _ _ _ (gt (hd 0 e) i) _;rw[bl];rcases d0 i with b|⟨w,L,z⟩
  ·rw[h8] at b;rw[b];exact .dead _
  rw[h8] at z;rw[h5,L];exact z
 have fs:qj f (ms 0 e):=by
  cases p:ms 0 e with
  |none=>trivial
  |some f1=>
   obtain⟨i,o,co⟩:=f1;rw[p] at a3;obtain⟨_,_,a,f0,f8,V,D,W,f5,f6⟩:=a3;have a0:f.pin=fe 0 e++kW (some (i,o,co)):=(by rw[<-p]);refine⟨by rw[a0];simp[kW],λs u=>by rw[a0];simp[kW,u],a,f0,f8,V,D,W,f5,f6⟩
 refine calls_of_wp d9 d (wp_mono (b f rfl rfl (λa d=>⟨av a d,λq=>d.elim (N a q).1 (N a q).2.1⟩) fs el _ x ⟨y,cv,Y,d4⟩ rfl) ?_);rintro gc X F ⟨ds,⟨d8,ci,fn,R,q⟩,⟨H,go,Z,g⟩,ap⟩;obtain⟨gs,p,f4,V,⟨gl,D⟩,W⟩:=qh.rep (w0:=x) g fn;obtain⟨r,d2,ad,d3⟩:=mH.rep g (B:=G) (vs:=l) q ft (λs u w bs=>by
  rw[Nat.sub_zero] at bs;rw[g.pin s (lQ _ u)];show l.getD s undef=w;rw[h5,bs];rfl)
 have R:=gY.ok R;have a4:∀id∈fe 0 e++ci,∃j,ak ds.h id=some j:=λid O=>by
  rcases eI.1 O with b|b
  ·exact(d3 id b).2
  exact W id b
 have A:=BV g a4 R;rw[h6,oE,<-ad] at A;have A:(r.flatten++p.flatten).Nodup:=(by have:=(List.Perm.append_left r.flatten D).nodup_iff.1 A;rw[<-k6] at this;exact(hu.1 this).1);have d5:∀a∈r.flatten++p.flatten,∃id j,ak ds.h id=some j/\a∈Z id:=λa d=>by
  have d:a∈((fe 0 e++ci).map Z).flatten:=by
   rw[h6,oE,<-ad];rcases eI.1 d with b|b
   ·exact lQ _ b
   exact ku _ (D.mem_iff.2 (lQ _ b))
  obtain⟨co,L,z⟩:=hE.1 d;obtain⟨id,O,rfl⟩:=c4.1 L;obtain⟨j,v⟩:=a4 id O;exact⟨id,j,v,z⟩
 have cs:∃w,(results m X.tmps).run E.P F=.ok w F/\∃H r p dl,Ending.returned w=.returned (m8 dl)/\Dm y G x K e l S H r p dl F:=
  ⟨_,Sj fp X.tmps F f4,H,r,p,_,rfl,d2,V,A,(λa d=>by
   obtain⟨id,j,v,d6⟩:=d5 a d;obtain⟨aq,t,T,f2⟩:=(g.tree id j v).2.2 a d6;exact⟨aq,t,T,f2⟩),g.i0,(λa d=>by
   rcases g.i1 a d with b|b|b
   ·exact .inl b
   ·exact .inr ⟨g.ib a (.inl d),.inl b⟩
   exact .inr ⟨g.ib a (.inl d),.inr b⟩),g.size,g.os,g.tape,g.output,g.evo,λa d d7=>g.frame a d d7⟩
 rcases d8 with rfl|rfl
 ·exact⟨ap,cs⟩
 exact⟨ap,cs⟩
end
end
section
open Classical in
def pick {a:Type} (c:a->Prop):Option a:=if h:∃b,c b then some h.choose else none
theorem Rj {d:a->Prop} {c:a} (b:pick d=some c):d c:=by
 unfold pick at b;split at b
 ·grind
 grind
inductive lU where
 |v (τ:af)
 |s (a:ag)
 |p (id:Nat) (a b:List aO)
 |w (id:Nat)
structure kx where
 g:List (Nat×lU)
 h:List (Nat×af)
@[reducible] def nf:List (Nat×lU)->Type->Type
 |[],r=>r
 |(_,.v a)::l,r=>a.den×nf l r
 |(_,.s _)::l,r=>nf l r
 |(_,.p _ _ _)::l,r=>Nat×nf l r
 |(_,.w _)::l,r=>cy×nf l r
@[reducible] def rj:List (Nat×af)->Type
 |[]=>Unit
 |(_,a)::l=>a.den×rj l
@[reducible] def kx.den (a:kx):Type:=nf a.g (rj a.h)
def lr {e:Type}:(c:List (Nat×lU))->nf c e->List (Nat×ag)
 |[],_=>[]
 |(d,.v f)::c,s=>(d,.val f s.1)::lr c s.2
 |(d,.s a)::c,s=>(d,a)::lr c s
 |(d,.p id a b)::c,s=>(d,.ref id (a++.idx s.1::b))::lr c s.2
 |(d,.w id)::c,s=>(d,.view id [] s.1.1 s.1.2)::lr c s.2
def qJ {b:Type}:(a:List (Nat×lU))->nf a b->b
 |[],s=>s
 |(_,.v _)::a,s=>qJ a s.2
 |(_,.s _)::a,s=>qJ a s
 |(_,.p _ _ _)::a,s=>qJ a s.2
 |(_,.w _)::a,s=>qJ a s.2
def qH:(a:List (Nat×af))->rj a->List (Nat×az)
 |[],_=>[]
 |(d,b)::a,s=>(d,⟨b,s.1⟩)::qH a s.2
def ih (a:kx) (b:a.den):aB:=⟨lr a.g b,qH a.h (qJ a.g b)⟩
def fy {τ:af} (a:af) (b:τ.den):Option a.den:=if e:τ=a then some (e▸b) else none
theorem hM {a:x.den} {b:n.den} (c:fy n a=some b):(⟨x,a⟩:az)=⟨n,b⟩:=by grind [fy]
def rn:aO->aO->Bool
 |.idx a,.idx b=>Nat.beq a b
 |.deref,.deref|.unst,.unst|.fst,.fst|.snd,.snd=>true
 |_,_=>false
theorem rn.ok {a:aO} (b:rn T a=true):T=a:=by cases T<;>cases a<;>first|rfl|(cases b;done)|(rw[dW b])
def jj:List aO->List aO->Bool
 |[],[]=>true
 |a::c,b::d=>rn a b&&jj c d
 |_,_=>false
theorem jj.ok:∀{c d:List aO},jj c d=true->c=d
 |[],[],_=>rfl
 |[],_::_,b=>by cases b
 |_::_,[],b=>by cases b
 |a::c,e::d,b=>by simp only[jj,a5] at b;rw[rn.ok b.1,jj.ok b.2]
def qo:ag->ag->Bool
 |.ref a c,.ref b d=>Nat.beq a b&&jj c d
 |.addr a c,.addr b d=>Nat.beq a b&&jj c d
 |_,_=>false
theorem qo.ok {a b:ag} (c:qo a b=true):a=b:=by cases a<;>cases b<;>first|(cases c;done)|(simp only[qo,a5] at c;grind [Nat.eq_of_beq_eq_true,jj.ok])
def qp:List ag->List ag->Bool
 |[],[]=>true
 |a::c,b::d=>qo a b&&qp c d
 |_,_=>false
theorem qp.ok:∀{c d:List ag},qp c d=true->c=d
 |[],[],_=>rfl
 |[],_::_,b=>by cases b
 |_::_,[],b=>by cases b
 |a::c,e::d,b=>by simp only[qp,a5] at b;rw[qo.ok b.1,qp.ok b.2]
def oS:ag->ag->Bool
 |.bZ c e,.bZ d f=>Nat.beq c d&&qp e f
 |a,b=>qo a b
theorem oS.ok {a b:ag} (c:oS a b=true):a=b:=by cases a<;>cases b<;>first|exact qo.ok c|(simp only[oS,a5] at c;grind [Nat.eq_of_beq_eq_true,qp.ok])
def vX:List aO->List aO->List aO->cK
 |[],a,.idx k::b=>bif jj a b then some k else none
 |s::c,a,d::b=>bif rn s d then vX c a b else none
 |_,_,_=>none
theorem IB:∀{d b e:List aO} {c:Nat},vX d b e=some c->e=d++.idx c::b
 |[],b,[],c,a=>by cases a
 |[],b,s::e,c,a=>by
  cases s<;>simp only[vX] at a<;>try (cases a;done)
  grind [jj.ok]
 |s::d,b,[],c,a=>by cases a
 |s::d,b,g::e,c,a=>by
  simp only[vX] at a;cases f:rn s g with
  |false=>grind
  |true=>rw[f] at a;rw[rn.ok f,IB a];rfl
def m6 {f:Type} (e:List (Nat×ag)) (g:Option f):(c:List (Nat×lU))->Option (nf c f)
 |[]=>g
 |(d,.v o)::c=>match gt e d with
  |.val _ m=>match fy o m with
   |some n=>(m6 e g c).map (λi=>(n,i))
   |none=>none
  |_=>none
 |(d,.s a)::c=>match oS a (gt e d) with
  |true=>m6 e g c
  |false=>none
 |(d,.p id a b)::c=>match gt e d with
  |.ref h i=>bif Nat.beq id h then match vX a b i with
   |some k=>(m6 e g c).map (λf=>(k,f))
   |none=>none else none
  |_=>none
 |(d,.w id)::c=>match gt e d with
  |.view h [] l j=>bif Nat.beq id h then(m6 e g c).map (λf=>((l,j),f)) else none
  |_=>none
def zd (b:List (Nat×az)):(a:List (Nat×af))->Option (rj a)
 |[]=>some ()
 |(d,g)::a=>match ak b d with
  |some e=>match fy g e.2 with
   |some f=>(zd b a).map (λc=>(f,c))
   |none=>none
  |none=>none
def sx:List (Nat×af)->Nat->Bool
 |[],_=>false
 |(k,_)::r,n=>bif Nat.beq k n then true else sx r n
def ng:List (Nat×lU)->List (Nat×af)->Bool
 |[],_=>true
 |(_,.v _)::l,h=>ng l h
 |(_,.s a)::l,h=>(a.ids.all λid=>sx h id)&&ng l h
 |(_,.p id _ _)::l,h=>sx h id&&ng l h
 |(_,.w id)::l,h=>sx h id&&ng l h
def proj (a:kx) (b:aB):Option a.den:=bif ng a.g a.h then m6 b.g (zd b.h a.h) a.g else none
theorem yi:∀{b:List (Nat×af)} {c:rj b} {id:Nat},sx b id=true->(ak (qH b c) id).isSome=true
 |[],_,_,a=>by cases a
 |(k,e)::b,c,id,a=>by
  simp only[sx] at a;simp only[qH,ak];cases d:Nat.beq k id with
  |true=>rfl
  |false=>rw[d] at a;exact yi (by grind)
theorem vD {o:Type} {q:aB} {n:Option o}:∀{e:List (Nat×lU)} {f:nf e o},m6 q.g n e=some f->l1 (lr e f) q/\n=some (qJ e f)
 |[],f,c=>⟨trivial,c⟩
 |(d,.v F)::e,f,c=>by
  simp only[m6] at c;split at c
  case h_2=>cases c
  rename_i G D t;split at c
  case h_2=>cases c
  rename_i E u;obtain⟨x,k,rfl⟩:=dH.1 c;obtain⟨h,i⟩:=vD k;refine⟨⟨?_,h⟩,i⟩;rw[t];cases hM u;rfl
 |(d,.s a)::e,f,c=>by
  simp only[m6] at c;split at c
  case h_2=>cases c
  rename_i r;obtain⟨h,i⟩:=vD c;exact⟨⟨(oS.ok r).symm,h⟩,i⟩
 |(d,.p id a b)::e,f,c=>by
  simp only[m6] at c;split at c
  case h_2=>cases c
  rename_i m x k;cases j:Nat.beq id m with
  |false=>grind
  |true=>
  rw[j] at c;simp only[cond_true] at c;split at c
  case h_2=>cases c
  rename_i B A;obtain⟨y,l,rfl⟩:=dH.1 c;obtain⟨h,i⟩:=vD l;refine⟨⟨?_,h⟩,i⟩;grind [IB,Nat.eq_of_beq_eq_true]
 |(d,.w id)::e,f,c=>by
  simp only[m6] at c;split at c
  case h_2=>cases c
  rename_i m C z k;cases j:Nat.beq id m with
  |false=>grind
  |true=>
  rw[j] at c;simp only[cond_true] at c;obtain⟨y,l,rfl⟩:=dH.1 c;obtain⟨h,i⟩:=vD l;refine⟨⟨?_,h⟩,i⟩;simp_all
theorem HG {e:aB}:∀{b:List (Nat×af)} {c:rj b},zd e.h b=some c->l3 (qH b c) e
 |[],c,a=>trivial
 |(d,m)::b,c,a=>by
  simp only[zd] at a;split at a
  case h_2=>cases a
  rename_i k g;split at a
  case h_2=>cases a
  rename_i l i;obtain⟨j,f,rfl⟩:=dH.1 a;refine⟨?_,HG f⟩;grind [hM]
theorem vV {r:Type} {c:List (Nat×af)} {t:rj c}:∀{l:List (Nat×lU)} {s:nf l r},ng l c=true->jE (lr l s) (qH c t)=true
 |[],s,h=>rfl
 |(d,.v e)::l,s,h=>by have:=vV (r:=r) (t:=t) (l:=l) (s:=s.2) h;simp only[jE,lr,p6,ag.ids,List.all_nil,Bool.true_and] at this|-;omega
 |(d,.s a)::l,s,h=>by simp only[ng,a5] at h;have:=vV (r:=r) (t:=t) (l:=l) (s:=s) h.2;simp only[jE,lr,p6,a5] at this|-;grind [yi,List.all_eq_true]
 |(_,.p id a b)::l,s,h=>by simp only[ng,a5] at h;have:=vV (r:=r) (t:=t) (l:=l) (s:=s.2) h.2;simp only[jE,lr,p6,a5] at this|-;refine⟨?_,this⟩;simp_all [yi,p6,List.all_nil,Bool.and_true,ag.ids]
 |(_,.w id)::l,s,h=>by simp only[ng,a5] at h;have:=vV (r:=r) (t:=t) (l:=l) (s:=s.2) h.2;simp only[jE,lr,p6,a5] at this|-;refine⟨?_,this⟩;simp_all [yi,p6,List.all_nil,Bool.and_true,ag.ids]
theorem pJ {a:kx} {b:a.den} (c:proj a i=some b):l1 (ih a b).g i/\l3 (ih a b).h i/\jE (ih a b).g (ih a b).h=true:=by
 unfold proj at c;cases d:ng a.g a.h with
 |false=>grind
 |true=>
  rw[d] at c;obtain⟨e,f⟩:=vD c;exact⟨e,HG f,vV d⟩
inductive eX where
 |v (τ:af)
 |m (τ:af)
 |o (τ:af)
 |c (f:Nat) (τs:List af)
 |n
 |s (f:Nat) (l:cO)
 |w (σ:af)
@[reducible] def iW:List af->Type
 |[]=>Unit
 |τ::a=>τ.den×iW a
@[reducible] def eZ:List eX->Type
 |[]=>Unit
 |.c _ e::a=>iW e×eZ a
 |.n::a=>Unit×eZ a
 |.s _ _::a=>Unit×eZ a
 |.v b::a=>b.den×eZ a
 |.m b::a=>b.den×eZ a
 |.o b::a=>b.den×eZ a
 |.w d::a=>(List d.den×Nat×Nat)×eZ a
@[reducible] def gi:List eX->Type->Type
 |[],a=>a
 |.m e::b,a=>e.den×gi b a
 |.w d::b,a=>List d.den×gi b a
 |.v _::b,a=>gi b a
 |.o _::b,a=>gi b a
 |.c _ _::b,a=>gi b a
 |.n::b,a=>gi b a
 |.s _ _::b,a=>gi b a
structure g5 where
 f:Nat
 ps:List eX
 rs:List af
 s6:eZ ps->Option (gi ps (iW rs))
def gy:(c:List af)->iW c->List az
 |[],_=>[]
 |τ::b,a=>⟨τ,a.1⟩::gy b a.2
def ej {j:Type}:(f:List eX)->eZ f->gi f j->List e7
 |[],_,_=>[]
 |.v e::d,a,b=>.v ⟨e,a.1⟩::ej d a.2 b
 |.m e::d,a,b=>.m ⟨e,a.1⟩ b.1::ej d a.2 b.2
 |.o e::d,a,b=>.o ⟨e,a.1⟩::ej d a.2 b
 |.c h l::d,a,b=>.c h (gy l a.1)::ej d a.2 b
 |.n::d,a,b=>.n::ej d a.2 b
 |.w k::d,a,b=>.w k a.1.1 a.1.2.1 a.1.2.2 b.1::ej d a.2 b.2
 |.s g i::d,a,b=>.s g i::ej d a.2 b
def fK {d:Type}:(e:List eX)->gi e d->d
 |[],a=>a
 |.m _::b,a=>fK b a.2
 |.w _::b,a=>fK b a.2
 |.v _::b,a=>fK b a
 |.o _::b,a=>fK b a
 |.c _ _::b,a=>fK b a
 |.n::b,a=>fK b a
 |.s _ _::b,a=>fK b a
def g3:Nat->List eX->Option cl
 |_,[]=>none
 |k,.s a b::_=>some (k,a,b)
 |k,_::c=>g3 (k+1) c
theorem vQ {r:Type}:∀{k:Nat} {ps:List eX} {a:eZ ps} {b:gi ps r},ms k (ej ps a b)=g3 k ps
 |k,[],a,b=>rfl
 |k,e::d,a,b=>by have c:=λa b=>vQ (r:=r) (k:=k+1) (ps:=d) (a:=a) (b:=b);cases e<;>first|exact c _ _|rfl
def aE (E:dz) (a:g5):Prop:=
 (∀(d:cG) (e:World),(callFunc a.f d).run E.P e=.ok (.enter a.f d) e)/\∀c b,a.s6 c=some b->oA E a.f (ej a.ps c b) (gy a.rs (fK a.ps b))
def fl:(j:af)->j.den->List aO->(a:af)->Option a.den
 |_,c,[],a=>fy a c
 |.osl d,i,.idx h::b,a=>match i[h]? with
  |some g=>fl d g b a
  |none=>none
 |.optr d,c,.deref::b,a=>fl d c b a
 |.st d,c,.unst::b,a=>fl d c b a
 |.pr e _,c,.fst::b,a=>fl e c.1 b a
 |.pr _ f,c,.snd::b,a=>fl f c.2 b a
 |_,_,_,_=>none
def MY {a:n.den}:fl n a [] x=fy x a:=by cases n<;>rfl
theorem gb:∀{g:List aO} {τ:af} {e:τ.den} {d:af} {f:d.den},fl τ e g d=some f->bN τ e g d f
 |[],τ,e,d,f,c=>by rw[MY] at c;cases hM c;grind [bN.en]
 |s::g,τ,e,d,f,c=>by
  cases τ<;>cases s<;>simp only[fl] at c<;>try (cases c;done)
  case osl.idx t i=>
   split at c
   ·rename_i h j;exact⟨h,j,gb c⟩
   grind
  case optr.deref t=>exact gb (τ:=t) c
  case st.unst t=>exact gb (τ:=t) c
  case pr.fst a b=>exact gb (τ:=a) c
  case pr.snd a b=>exact gb (τ:=b) c
def sY {τ':af} (b:τ'.den) (a:af):Option a.den:=if e:bQ τ' a=true then some (cast (bQ.den e) b) else none
theorem HA {b:x.den} {c:n.den} (a:sY b n=some c):lc x b n c:=by
 unfold sY at a;split at a
 ·rename_i d;cases a;exact .same d (cast_heq _ _).symm
 grind
def vC:(c:af)->c.den->(b:af)->Option b.den
 |.optr d,a,.ptr .dO e=>(sY (τ':=d) a e).map some
 |_,a,b=>sY a b
theorem Rd {c:x.den} {d:n.den} (a:vC x c n=some d):lc x c n d:=by
 unfold vC at a;split at a
 ·obtain⟨f,b,rfl⟩:=dH.1 a;simp only[sY] at b;split at b
  ·rename_i e;cases b;exact .ptr e (cast_heq _ _).symm
  grind
 exact HA a
def mS:af->Value->Bool
 |τ,.agg _=>mZ τ
 |_,.tuple _=>false
 |τ,_=>!mZ τ
theorem mS.ok (a:mS n G=true):bp n G.cells.toList=G:=by
 cases G<;>simp only[mS] at a<;>first
  |(cases a;done)
  |(rw[zf a];rfl)
  |(rw[Bool.not_eq_true'] at a;rw[ze a];rfl)
def lj (
 h:List (Nat×az)) (f:cO):ag->(a:af)->Option a.den
 |.val _ g,a=>sY g a
 |.bD d,a=>bif mS a d then gr a d.cells.toList else none
 |.ref id c,a=>match bV id f with
  |true=>none
  |false=>match ak h id with
   |none=>none
   |some b=>match dn b.1 c with
    |none=>none
    |some e=>match fl b.1 b.2 c e with
     |none=>none
     |some i=>vC e i a
 |_,_=>none
theorem D0 {h:n.den} (a:lj e g d n=some h):p1 e g d ⟨n,h⟩:=by
 cases d with
 |val c b=>exact HA a
 |bD p=>
  simp only[lj] at a;cases i:mS n p with
  |false=>grind
  |true=>rw[i] at a;exact⟨a,mS.ok i⟩
 |ref id m=>
  simp only[lj] at a;split at a
  ·cases a
  rename_i j;split at a
  ·cases a
  rename_i o k;split at a
  ·cases a
  rename_i c q;split at a
  ·cases a
  rename_i b l;have:bV id g=false/\∃f c b,ak e id=some f/\bN f.1 f.2 m c b/\lc c b n h:=⟨j,o,c,b,k,gb l,Rd a⟩;exact this
 |_=>cases a
def ma (b:List (Nat×az)) (a:cO):(g:List af)->List ag->Option (iW g)
 |[],[]=>some ()
 |τ::d,c::as=>match lj b a c τ with
  |some f=>(ma b a d as).map (λe=>(f,e))
  |none=>none
 |_,_=>none
def Fo {f:List (Nat×az)} {d:cO}:∀{c:List af} {e:List ag} {b:iW c},ma f d c e=some b->fY (p1 f d) e (gy c b)
 |[],[],_,_=>trivial
 |[],_::_,_,a=>by cases a
 |_::_,[],_,a=>by cases a
 |τ::j,i::as,b,a=>by
  simp only[ma] at a;split at a
  case h_2=>cases a
  rename_i l h;obtain⟨k,g,rfl⟩:=dH.1 a;exact⟨D0 h,Fo g⟩
def ot:List ag->List eX->cO
 |.ref id []::as,.m _::a=>id::ot as a
 |.ref id []::as,.o _::a=>id::ot as a
 |.view id [] _ _::as,.w _::a=>id::ot as a
 |_::as,_::a=>ot as a
 |_,_=>[]
def pG:Value->Bool
 |.slice none 0 0=>true
 |_=>false
theorem pG.ok (a:pG G=true):G=.slice none 0 0:=by grind [pG]
def vu:(a:af)->Value->Option a.den
 |.osl _,.slice none 0 0=>some []
 |_,_=>none
theorem O5 {b:n.den} (a:vu n G=some b):G=.slice none 0 0/\∃c,(⟨n,b⟩:az)=⟨.osl c,[]⟩:=by
 unfold vu at a;split at a
 ·simp_all
 grind
def dF (d:List (Nat×az)) (f:cO):(t:List eX)->List ag->Option (eZ t)
 |[],[]=>some ()
 |.v g::b,p::as=>match lj d f p g with
  |some e=>(dF d f b as).map (λa=>(e,a))
  |none=>none
 |.c r u::b,.bZ q a::as=>bif Nat.beq q r then match ma d f u a with
  |some e=>(dF d f b as).map (λa=>(e,a))
  |none=>none else none
 |.m g::b,.ref id []::as=>bif g.dS&&oy g then match ak d id with
  |some h=>match fy g h.2 with
   |some e=>(dF d f b as).map (λa=>(e,a))
   |none=>none
  |none=>none else none
 |.o g::b,.ref id []::as=>match ak d id with
  |some h=>match fy g h.2 with
   |some e=>(dF d f b as).map (λa=>(e,a))
   |none=>none
  |none=>none
 |.n::b,.bD i::as=>bif pG i then(dF d f b as).map (λa=>((),a)) else none
 |.s _ _::b,_::as=>(dF d f b as).map (λa=>((),a))
 |.o g::b,.bD i::as=>match vu g i with
  |some e=>(dF d f b as).map (λa=>(e,a))
  |none=>none
 |.w l::b,.view id [] k j::as=>bif l.dS then(bif Nat.blt k j then match ak d id with
  |some h=>match fy (.osl l) h.2 with
   |some e=>(dF d f b as).map (λa=>((e,k,j),a))
   |none=>none
  |none=>none else none) else none
 |_,_=>none
def wI {h:Type} (f:List (Nat×az)) (e:cO) (av:ag) (c:af) (d:c.den->Option h):Option h:=match av with
 |.ref id g=>match bV id e with
  |true=>none
  |false=>match ak f id with
   |none=>none
   |some a=>match dn a.1 g with
    |none=>none
    |some i=>(fl a.1 a.2 g i).bind λj=>match vC i j c with
     |none=>none
     |some b=>d b
 |av=>match lj f e av c with
  |none=>none
  |some b=>d b
theorem Kw {c:n.den->Option a}:wI e g d n c=(lj e g d n).bind c:=by
 cases d with
 |ref id f=>
  grind [bV,ak,dn,fl,vC,wI,lj]
 |_=>
  simp only[wI];split
  ·rename_i b;rw[b];rfl
  rename_i b;rw[b];rfl
def hz {p:Type} (e:List (Nat×az)) (g:cO):(x:List eX)->List ag->(eZ x->Option p)->Option p
 |[],[],a=>a ()
 |.v h::d,r::as,a=>wI e g r h λf=>hz e g d as λb=>a (f,b)
 |.c u y::d,.bZ t b::as,a=>bif Nat.beq t u then match ma e g y b with
  |some f=>hz e g d as λb=>a (f,b)
  |none=>none else none
 |.m h::d,.ref id []::as,a=>bif h.dS&&oy h then match ak e id with
  |some i=>match fy h i.2 with
   |some f=>hz e g d as λb=>a (f,b)
   |none=>none
  |none=>none else none
 |.o h::d,.ref id []::as,a=>match ak e id with
  |some i=>match fy h i.2 with
   |some f=>hz e g d as λb=>a (f,b)
   |none=>none
  |none=>none
 |.n::d,.bD j::as,a=>bif pG j then hz e g d as λb=>a ((),b) else none
 |.s _ _::d,_::as,a=>hz e g d as λb=>a ((),b)
 |.o h::d,.bD j::as,a=>match vu h j with
  |some f=>hz e g d as λb=>a (f,b)
  |none=>none
 |.w q::d,.view id [] l k::as,a=>bif q.dS then(bif Nat.blt l k then match ak e id with
  |some i=>match fy (.osl q) i.2 with
   |some f=>hz e g d as λb=>a ((f,l,k),b)
   |none=>none
  |none=>none else none) else none
 |_,_,_=>none
theorem kJ {A:Type} {d:List (Nat×az)} {f:cO}:∀{k:List eX} {q:List ag} {b:eZ k->Option A},hz d f k q b=(dF d f k q).bind b
 |[],[],b=>rfl
 |[],_::_,b=>rfl
 |p::a,[],b=>by cases p<;>rfl
 |.v h::a,e::as,b=>by
  simp only[hz,dF,Kw];cases lj d f e h with
  |none=>rfl
  |some g=>
   simp only[aQ];rw[kJ];cases dF d f a as<;>rfl
 |.c z B::a,e::as,b=>by
  cases e with
  |bZ y i=>
   simp only[hz,dF];cases Nat.beq y z with
   |false=>rfl
   |true=>
    simp only[cond_true];cases ma d f B i with
    |none=>rfl
    |some g=>
     simp only;rw[kJ];cases dF d f a as<;>rfl
  |ref id p=>cases p<;>rfl
  |_=>rfl
 |.m h::a,e::as,b=>by
  cases e with
  |ref id p=>
   cases p with
   |cons=>rfl
   |nil=>
    simp only[hz,dF];cases(h.dS&&oy h) with
    |false=>rfl
    |true=>
     simp only[cond_true];cases ak d id with
     |none=>rfl
     |some j=>
      simp only;cases fy h j.2 with
      |none=>rfl
      |some g=>
       simp only;rw[kJ];cases dF d f a as<;>rfl
  |_=>rfl
 |.o h::a,e::as,b=>by
  cases e with
  |ref id p=>
   cases p with
   |cons=>rfl
   |nil=>
    simp only[hz,dF];cases ak d id with
    |none=>rfl
    |some j=>
     simp only;cases fy h j.2 with
     |none=>rfl
     |some g=>
      simp only;rw[kJ];cases dF d f a as<;>rfl
  |bD l=>
   simp only[hz,dF];cases vu h l with
   |none=>rfl
   |some g=>
    simp only;rw[kJ];cases dF d f a as<;>rfl
  |_=>rfl
 |.w u::a,e::as,b=>by
  cases e with
  |view id p t r=>
   cases p with
   |cons=>rfl
   |nil=>
    simp only[hz,dF];cases u.dS with
    |false=>rfl
    |true=>
     simp only[cond_true];cases Nat.blt t r with
     |false=>rfl
     |true=>
     simp only[cond_true];cases ak d id with
     |none=>rfl
     |some j=>
      simp only;cases fy (.osl u) j.2 with
      |none=>rfl
      |some g=>
       simp only;rw[kJ];cases dF d f a as<;>rfl
  |ref id p=>cases p<;>rfl
  |_=>rfl
 |.n::a,e::as,b=>by
  cases e with
  |bD l=>
   simp only[hz,dF];cases pG l with
   |false=>rfl
   |true=>
    simp only[cond_true];rw[kJ];cases dF d f a as<;>rfl
  |ref id p=>cases p<;>rfl
  |_=>rfl
 |.s C i::a,e::as,b=>by
  have x:∀g:Option (eZ a),(g.bind λi=>b ((),i))=(g.map λi=>((),i)).bind b:=λg=>(by cases g<;>rfl);cases e with
  |ref id p=>cases p<;>(simp only[hz,dF];rw[kJ];grind)
  |view id p t r=>cases p<;>(simp only[hz,dF];rw[kJ];grind)
  |_=>simp only[hz,dF];rw[kJ];exact x _
theorem CU {r:Type}:∀{ps:List eX} {a:eZ ps} {b:gi ps r} {avs:List ag},dZ avs (ej ps a b)=ot avs ps
 |[],a,b,avs=>by cases avs with|nil=>rfl|cons h c=>cases h<;>first|rfl|(rename_i id p;cases p<;>rfl)|(rename_i id p c g;cases p<;>rfl)
 |p::c,a,b,[]=>by cases p<;>rfl
 |p::c,a,b,f::avs=>by have d:=λa b=>CU (r:=r) (ps:=c) (a:=a) (b:=b) (avs:=avs);cases p<;>cases f<;>first|exact d _ _|(rename_i id e;cases e<;>simp only[ej,dZ,ot,d];done)|(rename_i id e c g;cases e<;>simp only[ej,dZ,ot,d])
theorem mW {G:Type} {q:List (Nat×az)} {u:cO}:∀{r:List eX} {e:eZ r} {g:gi r G} {h:List ag},dF q u r h=some e->lJ q u h (ej r e g)
 |[],e,g,[],_=>trivial
 |[],e,g,_::_,a=>by cases a
 |p::i,e,g,[],a=>by cases p<;>cases a
 |.v t::i,e,g,d::h,a=>by
  simp only[dF] at a;split at a
  case h_2=>cases a
  rename_i l j;obtain⟨k,b,rfl⟩:=dH.1 a;exact⟨by cases d<;>exact D0 j,mW b⟩
 |.c F J::i,e,g,d::h,a=>by
  cases d with
  |bZ E k=>
   simp only[dF] at a;cases f:Nat.beq E F with
   |false=>grind
   |true=>
    rw[f] at a;obtain rfl:=dW f;simp only[cond_true] at a;split at a
    case h_2=>cases a
    rename_i l j;obtain⟨I,b,rfl⟩:=dH.1 a;exact⟨⟨rfl,Fo j⟩,mW b⟩
  |ref id p=>cases p<;>cases a
  |_=>cases a
 |.m t::i,e,g,d::h,a=>by
  cases d with
  |ref id p=>cases p with
   |cons=>cases a
   |nil=>
    simp only[dF] at a;cases f:(t.dS&&oy t) with
    |false=>grind
    |true=>
     rw[f] at a;simp only[a5] at f;simp only[cond_true] at a;split at a
     case h_2=>cases a
     rename_i B A;split at a
     case h_2=>cases a
     rename_i l j;obtain⟨k,b,rfl⟩:=dH.1 a;refine⟨⟨?_,f.1,f.2⟩,mW b⟩;grind [hM]
  |_=>cases a
 |.o t::i,e,g,d::h,a=>by
  cases d with
  |ref id p=>cases p with
   |cons=>cases a
   |nil=>
    simp only[dF] at a;split at a
    case h_2=>cases a
    rename_i B A;split at a
    case h_2=>cases a
    rename_i l j;obtain⟨k,b,rfl⟩:=dH.1 a;refine⟨?_,mW b⟩;show ak q id=some _;grind [hM]
  |bD C=>
   simp only[dF] at a;split at a
   case h_2=>cases a
   rename_i l j;obtain⟨k,b,rfl⟩:=dH.1 a;exact⟨O5 j,mW b⟩
  |_=>cases a
 |.w H::i,e,g,d::h,a=>by
  cases d with
  |view id p y x=>cases p with
   |cons=>cases a
   |nil=>
    simp only[dF] at a;cases f:H.dS with
    |false=>grind
    |true=>
     rw[f] at a;simp only[cond_true] at a;cases z:Nat.blt y x with
     |false=>grind
     |true=>
     rw[z] at a;simp only[cond_true] at a;split at a
     case h_2=>cases a
     rename_i B A;split at a
     case h_2=>cases a
     rename_i l j;obtain⟨k,b,rfl⟩:=dH.1 a;refine⟨⟨?_,⟨rfl,rfl⟩,eo z,f⟩,mW b⟩;grind [hM]
  |ref id p=>cases p<;>cases a
  |_=>cases a
 |.n::i,e,g,d::h,a=>by
  cases d with
  |bD C=>
   simp only[dF] at a;cases f:pG C with
   |false=>grind
   |true=>
    rw[f] at a;obtain⟨k,b,rfl⟩:=dH.1 a;exact⟨pG.ok f,mW b⟩
  |ref id p=>cases p<;>cases a
  |_=>cases a
 |.s D k::i,e,g,d::h,a=>by
  have a:(dF q u i h).map (λl=>(((),l):eZ (.s D k::i)))=some e:=by
   cases d with
   |ref id p=>cases p<;>exact a
   |view id p y x=>cases p<;>exact a
   |_=>exact a
  obtain⟨l,b,rfl⟩:=dH.1 a;refine⟨?_,mW b⟩;cases d with
  |ref id p=>cases p<;>trivial
  |view id p y x=>cases p<;>trivial
  |_=>trivial
end
section
def jJ:(τ:af)->τ.den->List aO->(b:af)->b.den->Option τ.den
 |τ,_,[],_,a=>fy τ a
 |.osl f,h,.idx g::c,b,a=>match h[g]? with
  |some k=>(jJ f k c b a).map λe=>h.set g e
  |none=>none
 |.optr f,d,.deref::c,b,a=>jJ f d c b a
 |.st f,d,.unst::c,b,a=>jJ f d c b a
 |.pr i _,d,.fst::c,b,a=>(jJ i d.1 c b a).map λe=>(e,d.2)
 |.pr _ j,d,.snd::c,b,a=>(jJ j d.2 c b a).map λe=>(d.1,e)
 |_,_,_,_,_=>none
def Ss {b:n.den} {a:x.den}:jJ n b [] x a=fy n a:=by cases n<;>rfl
def df.OX {d:n.den} {a:x.den} {b:n.den} (c:fy n a=some b):df n d [] x a b:=by cases hM c;cases n<;>exact⟨rfl,rfl⟩
def km:∀{k:List aO} {τ:af} {g:τ.den} {f:af} {h:f.den} {j:τ.den},jJ τ g k f h=some j->df τ g k f h j
 |[],τ,g,f,h,j,c=>by rw[Ss] at c;exact df.OX c
 |s::k,τ,g,f,h,j,c=>by
  cases τ<;>cases s<;>simp only[jJ] at c<;>try (cases c;done)
  case osl.idx t i=>
   split at c
   ·rename_i l m;obtain⟨d,e,rfl⟩:=dH.1 c;exact⟨l,d,m,km e,rfl⟩
   cases c
  case optr.deref t=>exact km (τ:=t) c
  case st.unst t=>exact km (τ:=t) c
  case pr.fst a b=>
   obtain⟨d,e,rfl⟩:=dH.1 c;exact⟨d,km e,rfl⟩
  case pr.snd a b=>
   obtain⟨d,e,rfl⟩:=dH.1 c;exact⟨d,km e,rfl⟩
def fD (a:Int):cK:=if 0<=a then some a.toNat else none
def OL {c:Int} (a:fD c=some b):c=(b:Int):=by
 unfold fD at a;split at a
 ·cases a;omega
 cases a
def bL (b:Nat) (a:Int):cK:=if 0<=a/\a.toNat<b then some a.toNat else none
def FC {c:Int} (a:bL l c=some b):c=(b:Int)/\b<l:=by
 unfold bL at a;split at a
 ·cases a;omega
 cases a
def dd (a:Nat):Option Unit:=if a<=fh then some () else none
def sG {c:Unit} (a:dd b=some c):b<=fh:=by
 unfold dd at a;split at a
 ·assumption
 cases a
def g1 (b:IntKind) (c a:Int):cJ:=if a≠0 then some (b.wrap (c.tdiv a)) else none
def gj (b a:Int):cJ:=if a≠0 then some (b.tmod a) else none
def fL (a:IntKind) (c b:Int):cJ:=if 0<=b then some (a.wrap (c*2^min b.toNat a.bits)) else none
def db (b:IntKind) (c a:Int):cJ:=if 0<=a then some (c.fdiv (2^min a.toNat b.bits)) else none
def bT (a:IntKind) (b c:Int):Int:=a.wrap (BitVec.ofInt a.bits b&&&BitVec.ofInt a.bits c).toNat
def dP (a:IntKind) (b c:Int):Int:=a.wrap (BitVec.ofInt a.bits b|||BitVec.ofInt a.bits c).toNat
def p0 (a:IntKind) (b c:Int):Int:=a.wrap (BitVec.ofInt a.bits b^^^BitVec.ofInt a.bits c).toNat
def Ki (a:IntKind) (b c:Int):Int:=a.wrap (BitVec.ofInt a.bits b&&&~~~BitVec.ofInt a.bits c).toNat
def r0 (c:Option ag) (a:Nat):cK:=
 match c with
 |none=>some a
 |some (.val (.int _) b)=>fD b
 |some _=>none
def wN {c:Option ag} (a:r0 c b=some l):oW c b l:=by
 unfold r0 at a;unfold oW;split at a
 ·cases a;rfl
 ·exact OL a
 cases a
def gg (b a c:Nat):Option Unit:=if b<=a/\a<=c then some () else none
def FQ {c:Unit} (a:gg l b W=some c):l<=b/\b<=W:=by
 unfold gg at a;split at a
 ·assumption
 cases a
def zc (_:Nat):Option Unit:=some ()
def e6 (a b:Int):cK:=if 0<=a/\a<=b/\b<=(fh:Int) then some a.toNat else none
open Classical in
def lz {b:Type} (c:Nat) (d a:Option b):Option b:=if c=0 then if d=a then a else none else a
def OV {f g:Option a} {e:a} (c:lz b f g=some e):g=some e/\(b=0->f=some e):=by
 unfold lz at c;split at c
 ·split at c
  ·rename_i d;exact⟨c,λ_=>d.trans c⟩
  cases c
 rename_i d;exact⟨c,λh=>absurd h d⟩
def mP:cP:=[0,1,28,2,29,14,24,3,30,22,20,15,25,17,4,8,31,27,13,23,21,19,16,7,26,12,18,6,11,5,10,9]
inductive zQ where
 |dc (av:ag)
 |opt (α:Type) (o:Option α) (f:α->ag)
 |new (α:Type) (o:Option α) (t:α->az) (d:Nat)
 |no
def hO (tt:List (TypeId×af)) (z:List (Nat×af)) (k:List (Nat×az)) (g:Operand->ag) (w:Nat) (v:Op):zQ:=
 match v with
 |.binOp v _ b e _=>match g b,g e with
  |.val (.int c) b,.val (.int A) e=>if c=A then
   (match v with
   |.add=>.dc (.val (.int c) (c.wrap (b+e)))
   |.sub=>.dc (.val (.int c) (c.wrap (b-e)))
   |.mul=>.dc (.val (.int c) (c.wrap (b*e)))
   |.quo=>.opt Int (g1 c b e) (.val (.int c))
   |.rem=>.opt Int (gj b e) (.val (.int c))
   |.shl=>.opt Int (fL c b e) (.val (.int c))
   |.shr=>.opt Int (db c b e) (.val (.int c))
   |.and=>.dc (.val (.int c) (bT c b e))
   |.or=>.dc (.val (.int c) (dP c b e))
   |.xor=>.dc (.val (.int c) (p0 c b e))
   |.andNot=>.dc (.val (.int c) (Ki c b e))
   |_=>.no) else
   (match v with
   |.shl=>.opt Int (fL c b e) (.val (.int c))
   |.shr=>.opt Int (db c b e) (.val (.int c))
   |_=>.no)
  |_,_=>.no
 |.unOp .neg _ b=>match g b with
  |.val (.int c) b=>.dc (.val (.int c) (c.wrap (0-b)))
  |_=>.no
 |.convert t p b=>match ak tt t,ak tt p,g b with
  |some (.int _),some (.int c),.val (.int _) b=>.dc (.val (.int c) (c.wrap b))
  |_,_,_=>.no
 |.nilCheck b=>match g b with
  |.val (.ptr r a) b=>.opt a.den b λe=>.val (.ptr r a) (some e)
  |_=>.no
 |.indexAddr h b q=>match eA tt h,g q with
  |some i,.val (.int _) q=>match g b with
   |.val (.aV r a) j=>bif aT i a then .opt a.den (aL j q) λe=>.val (.ptr r a) (some e) else .no
   |.ref id f=>match ak k id with
    |some d=>match dn d.1 f with
     |some (.osl a)=>bif aT i a then .opt Nat ((fl d.1 d.2 f (.osl a)).bind λj=>bL j.length q) λc=>.addr id (f++[.idx c]) else .no
     |_=>.no
    |none=>.no
   |.view id [] s u=>match ak k id with
    |some d=>match d.1 with
     |.osl a=>bif aT i a then .opt Nat (bL (u-s) q) λc=>.addr id [.idx (s+c)] else .no
     |_=>.no
    |none=>.no
   |_=>.no
  |_,_=>.no
 |.load h b=>match ak tt h with
  |some i=>match g b with
   |.addr id f=>match ak k id with
    |some d=>match dn d.1 f with
     |some a=>bif aT i a&&a.pure then .opt a.den (fl d.1 d.2 f a) λe=>.val a e else .no
     |none=>.no
    |none=>.no
   |.ref id f=>match ak k id with
    |some d=>match dn d.1 f with
     |some (.optr a)=>bif aT i a&&a.pure then .opt a.den (fl d.1 d.2 (f++[.deref]) a) λe=>.val a e else .no
     |_=>.no
    |none=>.no
   |.val (.ptr _ a) b=>bif aT i a then .opt a.den b λe=>.val a e else .no
   |_=>.no
  |none=>.no
 |.fieldAddr h b m=>match iR tt h,g b with
  |some i,.val (.ptr r (.st a)) b=>bif aT i a&&(dw a m).isSome then .opt a.den b λe=>(match nV a e m with
   |some n=>.val (.ptr r n.1) (some n.2)
   |none=>.dead) else .no
  |_,_=>.no
 |.slice h b s u none=>match eA tt h with
  |some i=>match g b with
   |.val (.aV r a) j=>bif aT i a then
    .opt cy ((r0 (s.map g) 0).bind λl=>(r0 (u.map g) j.length).bind λp=>(gg l p j.length).map λ_=>(l,p)) (λn=>.val (.aV r a) ((j.take n.2).drop n.1)) else .no
   |.ref id f=>match ak k id with
    |some d=>match dn d.1 f with
     |some (.osl a)=>bif aT i a then
      .opt cy ((fl d.1 d.2 f (.osl a)).bind λj=>(r0 (s.map g) 0).bind λl=>(r0 (u.map g) j.length).bind λp=>(gg l p j.length).bind λ_=>(zc j.length).map λ_=>(l,p)) (λn=>.view id f n.1 n.2) else .no
     |_=>.no
    |none=>.no
   |_=>.no
  |none=>.no
 |.makeSlice h l o=>match eA tt h,ak z w,ak k w with
  |some i,some (.osl a),none=>match jo a,g l,g o with
   |some y,.val (.int _) l,.val (.int _) o=>bif aT i a&&Nat.ble a.size 2000 then
    .new Nat (e6 l o) (λm=>⟨.osl a,List.replicate m y⟩) w else .no
   |_,_,_=>.no
  |_,_,_=>.no
 |.index h b q=>match ak tt h,g b,g q with
  |some .str,.bD (.string t),.val (.int _) m=>.opt Int (ni t m) (.val (.int .u8))
  |some .str,.val .str t,.val (.int _) m=>.opt Int (ni t m) (.val (.int .u8))
  |_,_,_=>.no
 |.lookup h b c B=>match it tt h,g b,g c with
  |some i,.ref id f,.val (.int .i64) c=>match ak k id with
   |some d=>match dn d.1 f with
    |some (.mp a)=>match jo a with
     |some y=>bif aT i a then .opt (Option (List (Int×a.den)×Nat)) (fl d.1 d.2 f (.mp a)) λx=>yJ a x y c B else .no
     |none=>.no
    |_=>.no
   |none=>.no
  |_,_,_=>.no
 |.call o=>match o.callee,o.args.toList,o.argTypes.toList with
  |.builtin .len,[b],[h]=>match eA tt h,g b with
   |some _,.ref id f=>match ak k id with
    |some d=>match dn d.1 f with
     |some (.osl a)=>.opt (List a.den) (fl d.1 d.2 f (.osl a)) λj=>.val (.int .i64) (j.length:Int)
     |_=>.no
    |none=>.no
   |none,.ref id f=>match it tt h,ak k id with
    |some _,some d=>match dn d.1 f with
     |some (.mp a)=>.opt (Option (List (Int×a.den)×Nat)) (fl d.1 d.2 f (.mp a)) λx=>.val (.int .i64) (sK x)
     |_=>.no
    |_,_=>.no
   |_,_=>.no
  |_,_,_=>.no
 |_=>.no
def E7:∀{t:af} {y:t.den} {b:Nat},(dw t b).isSome=true->∃d,nV t y b=some d
 |.pr e c,y,0,_=>⟨_,rfl⟩
 |.pr e c,y,b+1,a=>by
  simp only[dw] at a;split at a
  ·rename_i d f;exact E7 (t:=c) (by rw[f];rfl)
  cases a
 |.int _,_,_,a=>by cases a
 |.bool,_,_,a=>by cases a
 |.str,_,_,a=>by cases a
 |.aV _ _,_,_,a=>by cases a
 |.ptr _ _,_,_,a=>by cases a
 |.osl _,_,_,a=>by cases a
 |.optr _,_,_,a=>by cases a
 |.st _,_,_,a=>by cases a
 |.nil,_,_,a=>by cases a
 |.bP,_,_,a=>by cases a
def zQ.K (g:zQ) (b:ag->List (Nat×az)->Prop):Prop:=
 match g with
 |.dc e=>b e []
 |.opt _ c f=>∃a,c=some a/\b (f a) []
 |.new _ c h d=>∃a,c=some a/\b (.ref d []) [(d,h a)]
 |.no=>False
def AO {tt:List (TypeId×af)} {R:ag->List (Nat×az)->Prop} (a:(hO tt k e E b N).K R):(eE tt k e E b N).K R:=by
 unfold hO at a;split at a
 ·rename_i N r m j am;simp only[eE];split at a
  case h_2=>exact a.elim
  rename_i q m U j i W;simp only[i,W];split at a
  ·rename_i z;subst z;split at a
   ·simp only[jd,if_true];exact⟨_,⟨trivial,rfl⟩,a⟩
   ·simp only[jd,if_true];exact⟨_,⟨trivial,rfl⟩,a⟩
   ·simp only[jd,if_true];exact⟨_,⟨trivial,rfl⟩,a⟩
   ·obtain⟨x,g,f⟩:=a;unfold g1 at g;split at g
    ·rename_i c;cases g;simp only[jd,if_true];exact⟨_,⟨c,rfl⟩,f⟩
    cases g
   ·obtain⟨x,g,f⟩:=a;unfold gj at g;split at g
    ·rename_i c;cases g;simp only[jd,if_true];exact⟨_,⟨c,rfl⟩,f⟩
    cases g
   ·obtain⟨x,g,f⟩:=a;unfold fL at g;split at g
    ·rename_i c;cases g;exact⟨_,⟨c,rfl⟩,f⟩
    cases g
   ·obtain⟨x,g,f⟩:=a;unfold db at g;split at g
    ·rename_i c;cases g;exact⟨_,⟨c,rfl⟩,f⟩
    cases g
   ·simp only[jd,if_true];exact⟨_,⟨trivial,rfl⟩,a⟩
   ·simp only[jd,if_true];exact⟨_,⟨trivial,rfl⟩,a⟩
   ·simp only[jd,if_true];exact⟨_,⟨trivial,rfl⟩,a⟩
   ·simp only[jd,if_true];exact⟨_,⟨trivial,rfl⟩,a⟩
   exact a.elim
  split at a
  ·obtain⟨x,g,f⟩:=a;unfold fL at g;split at g
   ·rename_i c;cases g;exact⟨_,⟨c,rfl⟩,f⟩
   cases g
  ·obtain⟨x,g,f⟩:=a;unfold db at g;split at g
   ·rename_i c;cases g;exact⟨_,⟨c,rfl⟩,f⟩
   cases g
  exact a.elim
 ·rename_i r m;simp only[eE];split at a
  case h_2=>exact a.elim
  rename_i q m i;rw[i];exact⟨_,rfl,a⟩
 ·rename_i V z m;simp only[eE,wR];split at a
  case h_2=>exact a.elim
  rename_i U q ap m ai o i;rw[ai,o,i];exact⟨_,rfl,a⟩
 ·rename_i m;simp only[eE,q6];split at a
  case h_2=>exact a.elim
  rename_i G h m i;rw[i];obtain⟨j,rfl,f⟩:=a;exact⟨j,rfl,f⟩
 ·rename_i r m T;simp only[eE,qT];split at a
  case h_2=>exact a.elim
  rename_i l q T ai o;rw[ai,o];simp only;split at a
  ·rename_i G h F i;rw[i];simp only;cases d:aT l h with
   |false=>rw[d] at a;exact a.elim
   |true=>
   rw[d] at a;obtain⟨j,c,f⟩:=a;exact⟨j,c,f⟩
  ·rename_i id B i;rw[i];simp only;split at a
   case h_2=>exact a.elim
   rename_i t n;rw[n];simp only;split at a
   case h_2=>exact a.elim
   rename_i h p;rw[p];simp only;cases d:aT l h with
   |false=>rw[d] at a;exact a.elim
   |true=>
   rw[d] at a;obtain⟨j,c,f⟩:=a;obtain⟨F,P,c⟩:=bS.1 c;obtain⟨u,v⟩:=FC c;exact⟨(F,j),⟨gb P,u,v⟩,f⟩
  ·rename_i id Z X i;rw[i];simp only;split at a
   case h_2=>exact a.elim
   rename_i t n;obtain⟨a3,m⟩:=t;rw[n];simp only at a|-;split at a
   case h_2=>exact a.elim
   rename_i h;simp only[dn];cases d:aT l h with
   |false=>rw[d] at a;exact a.elim
   |true=>
   rw[d] at a;obtain⟨q,Y,f⟩:=a;obtain⟨u,v⟩:=FC Y;exact⟨(m,q),⟨⟨rfl,rfl⟩,u,v⟩,f⟩
  exact a.elim
 ·rename_i r m;simp only[eE,qY];split at a
  case h_2=>exact a.elim
  rename_i l ai;rw[ai];simp only;split at a
  ·rename_i id B i;rw[i];simp only;split at a
   case h_2=>exact a.elim
   rename_i t n;rw[n];simp only;split at a
   case h_2=>exact a.elim
   rename_i h p;rw[p];simp only[re];cases d:(aT l h&&h.pure) with
   |false=>rw[d] at a;exact a.elim
   |true=>
   rw[d] at a;simp only[a5] at d;rw[d.1,d.2];obtain⟨j,c,f⟩:=a;exact⟨j,gb c,f⟩
  ·rename_i id B i;rw[i];simp only;split at a
   case h_2=>exact a.elim
   rename_i t n;rw[n];simp only;split at a
   case h_2=>exact a.elim
   rename_i h p;rw[p];simp only[re];cases d:(aT l h&&h.pure) with
   |false=>rw[d] at a;exact a.elim
   |true=>
   rw[d] at a;simp only[a5] at d;rw[d.1,d.2];obtain⟨j,c,f⟩:=a;exact⟨j,gb c,f⟩
  ·rename_i G h m i;rw[i];cases d:aT l h with
   |false=>rw[d] at a;exact a.elim
   |true=>
   rw[d] at a;obtain⟨j,rfl,f⟩:=a;simp only[d,cond_true];exact f
  exact a.elim
 ·rename_i r m Q;simp only[eE,qO];split at a
  case h_2=>exact a.elim
  rename_i l G h m ai i;rw[ai,i];cases d:(aT l h&&(dw h Q).isSome) with
  |false=>rw[d] at a;exact a.elim
  |true=>
  rw[d] at a;simp only[a5] at d;obtain⟨j,rfl,f⟩:=a;obtain⟨a0,S⟩:=E7 (y:=j) d.2;simp only[S] at f;simp only[d.1,cond_true,S];exact f
 ·rename_i r m Z X;simp only[eE,rl];split at a
  case h_2=>exact a.elim
  rename_i l ai;rw[ai];simp only;split at a
  ·rename_i G h F i;rw[i];simp only;cases d:aT l h with
   |false=>rw[d] at a;exact a.elim
   |true=>
   rw[d] at a;obtain⟨j,c,f⟩:=a;obtain⟨w,M,c⟩:=bS.1 c;obtain⟨z,L,c⟩:=bS.1 c;obtain⟨ad,O,rfl⟩:=dH.1 c;obtain⟨u,v⟩:=FQ O;exact⟨(w,z),⟨wN M,wN L,u,v⟩,f⟩
  ·rename_i id B i;rw[i];simp only;split at a
   case h_2=>exact a.elim
   rename_i t n;rw[n];simp only;split at a
   case h_2=>exact a.elim
   rename_i h p;rw[p];simp only;cases d:aT l h with
   |false=>rw[d] at a;exact a.elim
   |true=>
   rw[d] at a;obtain⟨j,c,f⟩:=a;obtain⟨F,P,c⟩:=bS.1 c;obtain⟨w,M,c⟩:=bS.1 c;obtain⟨z,L,c⟩:=bS.1 c;obtain⟨ad,O,c⟩:=bS.1 c;obtain⟨eu,an,rfl⟩:=dH.1 c;obtain⟨u,v⟩:=FQ O;exact⟨(F,w,z),⟨gb P,wN M,wN L,u,v⟩,f⟩
  exact a.elim
 ·rename_i r w C;simp only[eE,q1];split at a
  case h_2=>exact a.elim
  rename_i l h ai o s;rw[ai,o,s];simp only;split at a
  case h_2=>exact a.elim
  rename_i x q w U C A D I;rw[A,D,I];simp only;cases d:(aT l h&&Nat.ble h.size 2000) with
  |false=>rw[d] at a;exact a.elim
  |true=>
  rw[d] at a;obtain⟨j,c,f⟩:=a;unfold e6 at c;split at c
  ·rename_i J;cases c;exact⟨(w.toNat,C.toNat),⟨(Int.toNat_of_nonneg J.1).symm,(Int.toNat_of_nonneg (Int.le_trans J.1 J.2.1)).symm,by show w.toNat<=C.toNat;omega,by show C.toNat<=fh;omega⟩,f⟩
  cases c
 ·rename_i r m T;simp only[eE,zu];split at a
  ·rename_i V q Q ai o s;rw[ai,o,s];obtain⟨H,d,f⟩:=a;exact⟨H,d,f⟩
  ·rename_i V q Q ai o s;rw[ai,o,s];obtain⟨H,d,f⟩:=a;exact⟨H,d,f⟩
  exact a.elim
 ·rename_i r m q av;simp only[eE,qZ];split at a
  case h_2=>exact a.elim
  rename_i l id B q ai o s;rw[ai,o,s];simp only;split at a
  case h_2=>exact a.elim
  rename_i t n;rw[n];simp only;split at a
  case h_2=>exact a.elim
  rename_i h p;rw[p];simp only;split at a
  case h_2=>exact a.elim
  rename_i x g;rw[g];simp only;cases d:aT l h with
  |false=>rw[d] at a;exact a.elim
  |true=>
  rw[d] at a;obtain⟨j,c,f⟩:=a;exact⟨j,gb c,f⟩
 ·rename_i C;simp only[eE];split at a
  ·rename_i m r ai o s;rw[ai,o,s];simp only;split at a
   ·rename_i l id B A D;rw[A,D];simp only[qX,A];split at a
    case h_2=>exact a.elim
    rename_i t n;rw[n];simp only;split at a
    case h_2=>exact a.elim
    rename_i h p;rw[p];obtain⟨j,c,f⟩:=a;exact⟨j,gb c,f⟩
   ·rename_i id B A D;rw[A,D];simp only[q4];split at a
    case h_2=>exact a.elim
    rename_i l t I n;rw[I,n];simp only;split at a
    case h_2=>exact a.elim
    rename_i h p;rw[p];obtain⟨j,c,f⟩:=a;exact⟨j,gb c,f⟩
   exact a.elim
  exact a.elim
 exact a.elim
def iI {e:Type} (c d:List e) (a b:Nat):List e:=c.take a++(d.take (b-a)++c.drop (a+min d.length (b-a)))
end
section
def vb:ag->Bool
 |.val _ _=>true
 |_=>false
def Bw:ag->Bool
 |.val _ _=>true
 |.bZ _ a=>a.all vb
 |_=>false
def Bx (b:Bw d=true):∀id∈d.ids,False:=by
 intro id a;cases d with
 |val g f=>simp[ag.ids] at a
 |bZ h c=>
  have b:c.all vb=true:=b;have:∀c:List ag,c.all vb=true->∀id∈ag.lu c,False:=by
   intro c
   induction c with
   |nil=>intro _ id a;simp[ag.lu] at a
   |cons d c e=>
    intro b id a;simp only[p6,a5] at b;simp only[ag.lu,eI] at a;rcases a with a|a
    ·cases d with
     |val g f=>simp[ag.ids] at a
     |_=>cases b.1
    exact e b.2 id a
  exact this c b id a
 |_=>cases b
def mD (C:c8) (c:List (Nat×ag)):Prop:=
 (∀a,C.I0 a\/C.B a->a<C.w0.heap.size/\¬C.F0 a)/\
 ∀b∈c,b.1∈C.pin/\Bw b.2=true/\bk (aY C.I0 C.B) C.w0 [] (λ_=>[]) (λ_=>[]) b.2 (C.vs b.1)
section
variable {E:dz} {C:c8}
def mD.nil (b:∀a,C.I0 a\/C.B a->a<C.w0.heap.size/\¬C.F0 a):mD C []:=⟨b,λc b=>by cases b⟩
def M6 (b c:List (Nat×ag)) (a:Nat):gt (b++c) a=match ak b a with|some d=>d|none=>gt c a:=by unfold gt;rw[hQ];cases ak b a<;>rfl
def ve {e:Type}:∀{c:List (Nat×e)} {b:Nat} {d:e},ak c b=some d->(b,d)∈c
 |[],_,_,a=>by cases a
 |(g,v0)::c,b,d,a=>by
  rw[bG] at a;split at a
  ·rename_i f;cases a;subst f;exact lR ..
  exact eJ _ (ve a)
def ez.kg (f:mD C D) {j:cG} (n:ez C i j v):ez C ⟨D++i.g,i.h⟩ j v:=by
 obtain⟨k,w,m,b⟩:=n;refine⟨k,w,m,{b with tmp:=λc=>?_}⟩;show bk _ _ _ _ _ (gt (D++i.g) c) _;rw[M6];split
 ·rename_i l s;obtain⟨o,p,d⟩:=f.2 _ (ve s);have d:bk (aY C.I0 C.B) C.w0 [] (λ_=>[]) (λ_=>[]) l (C.vs c):=d;rw[b.pin c o];refine d.pE (λt a e=>?_) (λid r=>(Bx p id r).elim);have q:C.I0 a\/C.B a:=kN e;obtain⟨aq,u⟩:=f.1 a q;refine⟨?_,bB.of_heap (b.frame a aq u)⟩;cases t
  ·exact b.i0 a e
  exact e.imp (b.i0 a) id
 exact b.tmp c
def J.kg {d:List (Nat×ag)} (k:mD C d) {c:Code} {a:aB} {b:Exit->aB->Prop} (f:J E C c ⟨d++a.g,a.h⟩ b):J E C c a b:=
 λe l i j=>f e l (i.kg k) j
def pp (a:List (Nat×ag)):cO->Option (List (Nat×ag))
 |[]=>some []
 |k::c=>match gt a k with
  |.val g f=>(pp a c).map λb=>(k,.val g f)::b
  |.bZ e d=>bif d.all vb then(pp a c).map λb=>(k,.bZ e d)::b else none
  |_=>none
def Br {l:List (Nat×ag)}:∀{j:cO} {d:List (Nat×ag)},pp l j=some d->∀c∈d,c.1∈j/\Bw c.2=true/\gt l c.1=c.2
 |[],d,a,c,b=>by cases a;cases b
 |k::j,d,a,c,b=>by
  simp only[pp] at a;split at a
  ·rename_i q p i;obtain⟨n,h,rfl⟩:=dH.1 a;rcases dk.1 b with rfl|b
   ·exact⟨lR ..,rfl,i⟩
   obtain⟨e,f⟩:=Br h c b;exact⟨eJ _ e,f⟩
  ·rename_i o m i;cases g:m.all vb with
   |false=>rw[g] at a;cases a
   |true=>
   rw[g] at a;obtain⟨n,h,rfl⟩:=dH.1 a;rcases dk.1 b with rfl|b
   ·exact⟨lR ..,g,i⟩
   obtain⟨e,f⟩:=Br h c b;exact⟨eJ _ e,f⟩
  cases a
def J.keep {N:Code} {L:List (Nat×ag)} {M:Exit->aB->Prop} (q:mD C D) (ap:pp i.g y=some L) (d:∀k:c8,k.n=C.n->k.pin=y++C.pin->mD k (L++D)->(∀t,qj C t->qj k t)->(iA E C.I0 C.w0->iA E k.I0 k.w0)->J E k N i M):J E C N i M:=by
 rintro u x ⟨z,P,A,b⟩ Z
 let k:c8:={I0:=z,B:=C.B,F0:=λa=>∃id e,ak i.h id=some e/\a∈A id,w0:=x,n:=C.n,pin:=y++C.pin,vs:=λp=>u.tmps.getD p undef}
 have X:bi k i u.tmps x z P A:=
  {n:=b.n,i0:=λ_ d=>d,i1:=λ_ d=>.inl d,ib:=b.ib,tree:=λid e j=>⟨(b.tree id e j).1,(b.tree id e j).2.1,λa c=>⟨((b.tree id e j).2.2 a c).1,((b.tree id e j).2.2 a c).2.1,((b.tree id e j).2.2 a c).2.2.1,.inr ⟨id,e,j,c⟩⟩⟩,dis:=b.dis,tmp:=b.tmp,frame:=λ_ _ _=>rfl,evo:=λ_ _=>.refl _ _,size:=a2 _,os:=rfl,tape:=rfl,output:=rfl,pin:=λp _=>rfl}
 have an:mD k (L++D):=by
  refine⟨λa c=>⟨b.ib a c,?_⟩,λw o=>?_⟩
  ·rintro⟨id,e,j,Y⟩;obtain⟨aq,s,_⟩:=(b.tree id e j).2.2 a Y;exact c.elim aq s
  rcases eI.1 o with o|o
  ·obtain⟨l,m,F⟩:=Br ap w o;refine⟨eI.2 (.inl l),m,?_⟩;have:=b.tmp w.1;rw[F] at this;exact this.pE (λO a r=>⟨r,bB.refl _ _⟩) (λid H=>(Bx m id H).elim)
  obtain⟨l,m,F⟩:=q.2 w o;refine⟨eI.2 (.inr l),m,?_⟩;show bk _ _ _ _ _ _ (u.tmps.getD w.1 undef);rw[b.pin _ l];refine F.pE (λO a r=>?_) (λid H=>(Bx m id H).elim);obtain⟨aq,s⟩:=q.1 a (kN r);refine⟨?_,bB.of_heap (b.frame a aq s)⟩;cases O
  ·exact b.i0 a r
  exact r.imp (b.i0 a) id
 have a0:∀t,qj C t->qj k t:=by
  rintro(_|⟨p,d1,d2⟩) av
  ·trivial
  obtain⟨Q,R,a,K,dl,ci,S,T,co,cs⟩:=av;refine⟨ku _ Q,λv I=>ku _ (R v I),a,K,dl,(b.pin p Q).trans ci,fF S b.size,?_,?_,?_⟩
  ·rintro⟨id,e,j,c⟩;rcases((b.tree id e j).2.2 a c).2.2.2 with l|l
   ·omega
   exact T l
  ·have c:=b.frame a S T;rw[<-co];unfold World.cell?;rw[show x.heap[(⟨a,K,none⟩:Addr).block]?=C.w0.heap[(⟨a,K,none⟩:Addr).block]? from c]
  rw[cs];exact ht λv I=>(b.pin v (R v I)).symm
 refine wp_mono (d k rfl rfl an a0 (λW=>b.glob q.1 W) u x ⟨z,P,A,X⟩ Z) ?_;rintro d0 ds d3 ⟨cv,o,⟨U,ce,V,f⟩,ad⟩;have G:∀a,k.F0 a->C.w0.heap.size<=a\/C.F0 a:=(by rintro a ⟨id,e,j,c⟩;exact((b.tree id e j).2.2 a c).2.2.2);refine⟨cv,o,⟨U,ce,V,?_⟩,ad⟩;refine{n:=f.n,i0:=λa c=>f.i0 a (b.i0 a c),i1:=λa c=>?_,ib:=f.ib,tree:=λid e j=>?_,dis:=f.dis,tmp:=f.tmp,frame:=λa l m=>?_,evo:=λa c=>(b.evo a c).trans (f.evo a (fF c b.size)),size:=bt b.size f.size,os:=f.os.trans b.os,tape:=f.tape.trans b.tape,output:=f.output.trans b.output,pin:=λp q=>?_}
 ·rcases f.i1 a c with d|d|d
  ·exact b.i1 a d
  ·exact .inr (.inl (bt b.size d))
  exact .inr (G a d)
 ·obtain⟨aq,s,a3⟩:=f.tree id e j;refine⟨aq,s,λa c=>?_⟩;obtain⟨a4,bl,bs,aP⟩:=a3 a c;refine⟨a4,bl,bs,?_⟩;rcases aP with d|d
  ·exact .inl (bt b.size d)
  exact G a d
 ·refine(f.frame a (fF l b.size) ?_).trans (b.frame a l m);intro am;rcases G a am with d|d
  ·omega
  exact m d
 rw[f.pin p (eI.2 (.inr q))];exact b.pin p q
end
end
structure bc where
 d:Option (Nat×ag)
 S:cO
 keep:List (Nat×List aO)
 put:List (Nat×az)
variable{p:bc}
def kL (a:cO) (c:List (Nat×List aO)) (b:List (Nat×ag)):List (Nat×ag):=match a with
 |[]=>b
 |_=>kill a c b
def nS (a:cO) (b:List (Nat×az)):List (Nat×az):=match a with
 |[]=>b
 |_=>del a b
def bc.app (a:bc) (b:aB):aB:=⟨match a.d with
 |some c=>c::kL a.S a.keep b.g
 |none=>kL a.S a.keep b.g,a.put++nS a.S b.h⟩
def ND (d:List (Nat×List aO)) (a:ag):dJ [] d a=a:=by
 have b:∀a,di [] d a=a:=λa=>(by have:(a.ids.any λc=>bV c [])=false:=(by rw[rH];intro c _;simp[bV]);simp only[di,ag.dB,this,Bool.false_and,cond_false]);cases a with
 |dg e=>simp only[dJ,ht (λa _=>b a),List.map_id']
 |_=>exact b _
def FK (c:List (Nat×List aO)):∀b:List (Nat×ag),kill [] c b=b
 |[]=>rfl
 |(k,a)::b=>by have:=FK c b;simp only[kill,eH,ND] at this|-;rw[this]
def EE:∀a:List (Nat×az),del [] a=a
 |[]=>rfl
 |x::a=>by have:=EE a;simp only[del] at this|-;rw[k8,al (by simp[bV]),this]
theorem pq (a:cO) (c:List (Nat×List aO)) (b:List (Nat×ag)):kL a c b=kill a c b:=by
 cases a
 ·exact(FK c b).symm
 rfl
theorem so (a:cO) (b:List (Nat×az)):nS a b=del a b:=by
 cases a
 ·exact(EE b).symm
 rfl
def oq {k:Type} (tt:List (TypeId×af)) (f:List (Nat×az)) (m:TypeId) (q v:ag) (e:bc->Option k):Option k:=
 match oe f q with
 |none=>none
 |some (
  id,p)=>match ak f id,ak tt m with
  |some a,some o=>match dn a.1 p with
   |none=>none
   |some b=>bif aT o b then match v with
    |.ref c g=>match ak f c with
     |some l=>bif Nat.beq id c then none else(fl l.1 l.2 g b).bind λh=>(jJ a.1 a.2 p b h).bind λd=>e ⟨none,[id,c],[(id,p)],[(id,⟨a.1,d⟩)]⟩
     |none=>none
    |.app c g i j n=>match fy (τ:=.osl i) b j with
     |some _=>bif Nat.beq c id&&jj g p then(fl a.1 a.2 p (.osl i)).bind λr=>(jJ a.1 a.2 p (.osl i) (r++j)).bind λd=>e ⟨none,id::n,[(id,p)],[(id,⟨a.1,d⟩)]⟩ else none
     |none=>none
    |v=>match coe b v with
     |some h=>(jJ a.1 a.2 p b h).bind λd=>e ⟨none,[id],[(id,p)],[(id,⟨a.1,d⟩)]⟩
     |none=>none
   else none
  |_,_=>none
theorem SW {s:a} {o:bc->Option a} {tt:List (TypeId×af)} (b:oq tt i.h c t d o=some s) (m:∀p,o p=some s->u (p.app i)):(zt tt i c t d).K u:=by
 unfold oq at b;unfold zt;split at b
 ·cases b
 rename_i id F A;rw[A];simp only;split at b
 case h_2=>cases b
 rename_i L G B z;obtain⟨O,N⟩:=L;rw[B,z];simp only at b|-;split at b
 ·cases b
 rename_i I E;rw[E];simp only;cases q:aT G I with
 |false=>rw[q] at b;cases b
 |true=>
 rw[q] at b;simp only[cond_true] at b|-;split at b
 ·rename_i f g;split at b
  case h_2=>cases b
  rename_i J C;obtain⟨P,M⟩:=J;cases e:Nat.beq id f with
  |true=>rw[e] at b;cases b
  |false=>
  rw[e] at b;obtain⟨n,j,b⟩:=bS.1 b;obtain⟨l,k,b⟩:=bS.1 b;simp only[C,e,cond_false];exact⟨(n,l),⟨gb j,km k⟩,m _ b⟩
 ·rename_i f g w v r;split at b
  case h_2=>cases b
  rename_i n j;cases hM j;cases e:(Nat.beq f id&&jj g F) with
  |false=>rw[e] at b;cases b
  |true=>
  rw[e] at b;simp only[a5] at e;obtain⟨H,D,b⟩:=bS.1 b;obtain⟨l,k,b⟩:=bS.1 b;simp only[dif_pos];exact⟨(H,l),⟨dW e.1,jj.ok e.2,gb D,km k⟩,m _ b⟩
 rename_i d x y;split at b
 case h_2=>cases b
 rename_i n j;obtain⟨l,k,b⟩:=bS.1 b;split
 ·rename_i f g;exact(x f g rfl).elim
 ·rename_i f g w v r;exact(y f g w v r rfl).elim
 rw[j];exact⟨l,km k,m _ b⟩
def iy (e:List (Nat×az)) (a:af) (i:ag):Option (List a.den):=
 match i with
 |.val (.aV _ h) d=>fy (τ:=.osl h) (.osl a) d
 |.bD (.slice none 0 0)=>some []
 |.ref id c=>match ak e id with
  |some b=>bif a.pure then fl b.1 b.2 c (.osl a) else none
  |none=>none
 |.view id c g f=>match ak e id with
  |some b=>bif a.pure then(fl b.1 b.2 c (.osl a)).bind λd=>some ((d.take f).drop g) else none
  |none=>none
 |_=>none
def jc.zK {c:af} (e:jc c) (b:List c.den):Prop:=
 match e with
 |.dc f=>f=b
 |.part _ g d=>∃a,g a/\d a=b
 |.bad=>False
def wb {f:List n.den} (a:iy e n d=some f):(oz e n d).zK f:=by
 unfold iy at a;unfold oz;split at a
 ·rename_i p q h;cases hM a;simp only[dif_pos];rfl
 ·cases a;rfl
 ·rename_i id j;split at a
  case h_2=>cases a
  rename_i g c;obtain⟨l,k⟩:=g;simp only[c];cases b:n.pure with
  |false=>rw[b] at a;cases a
  |true=>rw[b] at a;exact⟨f,gb a,rfl⟩
 ·rename_i id j o m;split at a
  case h_2=>cases a
  rename_i g c;obtain⟨l,k⟩:=g;simp only[c];cases b:n.pure with
  |false=>rw[b] at a;cases a
  |true=>
   rw[b] at a;obtain⟨h,i,a⟩:=bS.1 a;cases a;exact⟨h,gb i,rfl⟩
 cases a
def jc.zK.to {d:af} {c:jc d} {a:List d.den} (b:c.zK a) {g:Nat->Prop} {f:List d.den->aB} {e:aB->Prop} (h:g a.length) (i:e (f a)):(c.to g f).K e:=by
 cases c with
 |dc l=>obtain rfl:l=a:=b;exact⟨(),h,i⟩
 |part n o m=>obtain⟨k,j,rfl⟩:=b;exact⟨k,⟨j,h⟩,i⟩
 |bad=>exact b.elim
def l0 {n:Type} (tt:List (TypeId×af)) (p:List (Nat×af)) (d:List (Nat×az)) (b:Nat) (o:TypeId) (q g:ag) (f:bc->Option n):Option n:=
 match eA tt o with
 |none=>none
 |some i=>
  match q with
  |.ref id []=>match ak d id with
   |some ⟨.osl a,e⟩=>bif aT i a&&Nat.ble a.size 1300 then
    match a.pure with
    |true=>(iy d a g).bind λc=>(dd (e.length+c.length)).bind λ_=>f ⟨some (b,.ref b []),[id,b],[],[(b,⟨.osl a,e++c⟩)]⟩
    |false=>match g with
     |.ref k []=>match ak d k with
      |some r=>match fy (.osl a) r.2 with
       |some c=>bif Nat.beq id k then none else(dd (e.length+List.length (α:=a.den) c)).bind λ_=>f ⟨some (b,.ref b []),[id,k,b],[],[(b,⟨.osl a,List.append (α:=a.den) e c⟩)]⟩
       |none=>none
      |none=>none
     |_=>none
    else none
   |_=>none
  |.ref id h=>match ak d id,ak d b with
   |some j,none=>match dn j.1 h with
    |some (.osl a)=>bif aT i a&&Nat.ble a.size 1300&&a.hS then
     (fl j.1 j.2 h (.osl a)).bind λe=>(iy d a g).bind λc=>(dd (List.length (α:=a.den) e+c.length)).bind λ_=>
      f ⟨some (b,.app id h a c [b]),[id],[(id,h),(id,[])],[(b,⟨.bP,()⟩),(id,j)]⟩
     else none
    |_=>none
   |_,_=>none
  |.view id [] m l=>match ak d id with
   |some ⟨.osl a,e⟩=>bif aT i a&&Nat.ble a.size 1300 then
    (iy d a g).bind λc=>(dd (List.length (α:=a.den) ((e.take l).drop m)+c.length)).bind λ_=>f ⟨some (b,.ref b []),[id,b],[],[(b,⟨.osl a,(e.take l).drop m++c⟩)]⟩
    else none
   |_=>none
  |.bD (.slice none 0 0)=>match ak p b with
   |some (.osl a)=>bif aT i a&&Nat.ble a.size 1300 then
    (iy d a g).bind λc=>(dd c.length).bind λ_=>f ⟨some (b,.ref b []),[b],[],[(b,⟨.osl a,c⟩)]⟩
    else none
   |_=>none
  |_=>none
def Kp {A:a} {x:bc->Option a} {tt:List (TypeId×af)} (e:l0 tt k i.h b c d t x=some A) (m:∀y,x y=some A->u (y.app i)):(wH tt k i b c d t).K u:=by
 unfold l0 at e;unfold wH;split at e
 ·cases e
 rename_i s F;rw[F];simp only;split at e
 ·rename_i id;simp only;split at e
  case h_2=>cases e
  rename_i l v o;rw[o];simp only;cases g:(aT s l&&Nat.ble l.size 1300) with
  |false=>rw[g] at e;cases e
  |true=>
  rw[g] at e;simp only[cond_true] at e|-;split at e
  ·rename_i n;rw[n];obtain⟨q,f,e⟩:=bS.1 e;obtain⟨_,j,e⟩:=bS.1 e;exact(wb f).to (sG j) (m _ e)
  rename_i n;rw[n];split at e
  case h_2=>cases e
  rename_i H;split at e
  case h_2=>cases e
  rename_i M E;obtain⟨V,R⟩:=M;split at e
  case h_2=>cases e
  rename_i q f;cases hM f;cases w:Nat.beq id H with
  |true=>rw[w] at e;cases e
  |false=>
  rw[w] at e;obtain⟨_,j,e⟩:=bS.1 e;simp only[E,dif_pos,w,cond_false];exact⟨(),sG j,m _ e⟩
 ·rename_i id z n;split at e
  case h_2=>cases e
  rename_i L o D;obtain⟨U,S⟩:=L;simp only at e;split at e
  case h_2=>cases e
  rename_i l G;cases g:(aT s l&&Nat.ble l.size 1300&&l.hS) with
  |false=>rw[g] at e;cases e
  |true=>
  rw[g] at e;obtain⟨v,r,e⟩:=bS.1 e;obtain⟨q,f,e⟩:=bS.1 e;obtain⟨_,j,e⟩:=bS.1 e;have j:=sG j;have f:=wb f;have r:=gb r;cases z with
  |nil=>exact(n rfl).elim
  |cons Q z=>
  simp only[o,D,G,g,cond_true];split
  ·rename_i J p;rw[p] at f;obtain rfl:J=q:=f;exact⟨v,⟨r,j⟩,m _ e⟩
  ·rename_i T W N p;rw[p] at f;obtain⟨I,B,rfl⟩:=f;exact⟨(v,I),⟨r,B,j⟩,m _ e⟩
  rename_i p;rw[p] at f;exact f.elim
 ·rename_i id P O;simp only;split at e
  case h_2=>cases e
  rename_i l v o;rw[o];simp only;cases g:(aT s l&&Nat.ble l.size 1300) with
  |false=>rw[g] at e;cases e
  |true=>
  rw[g] at e;simp only[cond_true] at e|-;obtain⟨q,f,e⟩:=bS.1 e;obtain⟨_,j,e⟩:=bS.1 e;exact(wb f).to (sG j) (m _ e)
 ·simp only;split at e
  case h_2=>cases e
  rename_i l C;rw[C];simp only;cases g:(aT s l&&Nat.ble l.size 1300) with
  |false=>rw[g] at e;cases e
  |true=>
  rw[g] at e;simp only[cond_true] at e|-;obtain⟨q,f,e⟩:=bS.1 e;obtain⟨_,j,e⟩:=bS.1 e;exact(wb f).to (sG j) (m _ e)
 cases e
def mO (d:List (Nat×af)) (c:List (Nat×az)) (a:Nat) (h:ag):Option bc:=
 match h with
 |.ref id []=>match ak c id with
  |some b=>some ⟨some (a,.ref a []),[id,a],[],[(a,b)]⟩
  |none=>none
 |.ref id g=>bif Nat.beq id a then none else some ⟨some (a,.ref id g),[a],[],[]⟩
 |.view id [] f e=>match ak c id with
  |some ⟨.osl b,i⟩=>some ⟨some (a,.ref a []),[id,a],[],[(a,⟨.osl b,(i.take e).drop f⟩)]⟩
  |_=>none
 |.bD (.slice none 0 0)=>match ak d a with
  |some (.osl b)=>some ⟨some (a,.ref a []),[a],[],[(a,⟨.osl b,[]⟩)]⟩
  |_=>none
 |_=>none
def Kz (a:mO k i.h b d=some p) (e:u (p.app i)):(wJ k i b d).K u:=by
 unfold mO at a;unfold wJ;split at a
 ·split at a
  ·rename_i j c;cases a;simp only[c];exact e
  cases a
 ·rename_i id g l;cases f:Nat.beq id b with
  |true=>rw[f] at a;cases a
  |false=>
  rw[f] at a;cases a;cases g with
  |nil=>exact(l rfl).elim
  |cons m g=>simp only[f,cond_false];exact e
 ·split at a
  ·rename_i j n c;cases a;simp only[c];exact e
  cases a
 ·split at a
  ·rename_i j c;cases a;simp only[c];exact e
  cases a
 cases a
section
section
variable {E:dz} {C:c8} {st:aB} {a:Act} {w w':World} {I:Nat->Prop} {rt:Nat->cI} {fp:Nat->cO} {o:Oper} {Q:aB->Prop}
def c5.own {S:cO} {t:az} {cs:cI} {f:cO} {v:Value} {next:Act->World->Prop} {u:Exit->Act->World->Prop} (A:o.dst=some b) (F:C.ok b) (m:bi C st a.tmps w I rt fp) (J:∀r l w',Q r->l.defers=a.defers->ez C r l.tmps w'->next l w') (D:b∈S\/ak st.h b=none) (M:(execOp a.eval o).run E.P w=.ok (.value v) w') (e:fu w w') (N:v=bp t.1 cs) (L:aG (aY I C.B) w' t.1 cs t.2 f) (G:f.Nodup) (j:∀c∈f,(w.heap.size<=c/\c<w'.heap.size)\/∃q∈S,∃R,ak st.h q=some R/\c∈fp q) (K:Q ⟨(b,.ref b [])::kill S [] st.g,(b,t)::del S st.h⟩):o.wp E.P a w next u:=by
 have k:=m.eT (kz.one (st:=st) (C:=C) (rt:=rt) (w':=w') (I':=I) (S:=S) (d:=b) (t:=t) (cs:=cs) (f:=f) D e.size e.os e.tape e.output (λc j _=>e.heap c j) (λc j=>(bB.of_heap (e.heap c j)).2) (λ_ i=>i) (λ_ i=>.inl i) L G (λc z=>by
  rcases j c z with⟨x,y⟩|⟨p,H,s,k,n⟩
  ·exact⟨λi=>by have:=m.ib c (.inl i);omega,y,.inl x⟩
  obtain⟨aq,T,O,U⟩:=(m.tree p s k).2.2 c n;exact⟨aq,fF O e.size,.inr ⟨p,H,s,k,n⟩⟩))
 unfold Oper.wp;rw[M];show next (a.put o.dst v) w'
 rw[A];refine J _ _ _ K rfl ⟨_,_,_,k.put F (av:=.ref b []) ?_⟩;rw[N];refine .ref (t:=t) (loc:=none) (by rw[hQ,bG,al rfl];rfl) ?_;rw[yP];exact aJ.here
def sX (e:List (Nat×az)) (a:af):ag->Option (az×cO)
 |.val d b=>bif aT a d then some (⟨d,b⟩,[]) else none
 |.bD f=>match gr a f.cells.toList with
  |some b=>some (⟨a,b⟩,[])
  |none=>none
 |.ref id []=>match ak e id with
  |some c=>bif aT a c.1 then some (c,[id]) else none
  |none=>none
 |_=>none
theorem Hz {h:bO->Nat->Prop} (m:∀id t,ak e id=some t->aG h w t.1 (rt id) t.2 (fp id)) {a:af} (j:dm s a c) (i:bk h w e rt fp d G) {t:az} {ids:cO} (b:sX e a d=some (t,ids)):aG h w t.1 G.cells.toList t.2 (ids.map fp).flatten/\t.1.size=a.size/\∀id∈ids,∃p,ak e id=some p:=by
 unfold sX at b;split at b
 ·rename_i r q;cases f:aT a r with
  |false=>grind
  |true=>
   rw[f] at b;cases b;cases i with|val g=>
   rw[mq (j.lay f) g.len g.one];grind [aT.size]
 ·rename_i v;split at b
  ·rename_i q u;cases b;cases i;grind [mR]
  grind
 ·rename_i id;split at b
  ·rename_i o k;cases f:aT a o.1 with
   |false=>grind
   |true=>
    rw[f] at b;cases b;cases i with|ref l n=>
    rw[k] at l;cases l;obtain⟨rfl,rfl,rfl⟩:=aJ.en.1 n;have g:=m id _ k;rw[mq (j.lay f) g.len g.one];grind [List.mem_singleton,aT.size]
  grind
 grind
def ke (e:List (Nat×az)) (d:Operand->ag) (g:List (Nat×Operand)):af->Nat->Option (az×cO)
 |.pr a h,f=>
  match(match jk g f with
   |none=>match jo a with
    |some i=>some ((⟨a,i⟩:az),([]:cO))
    |none=>none
   |some b=>sX e a (d b)),ke e d g h (f+1) with
  |some b,some c=>some (⟨.pr b.1.1 c.1.1,(b.1.2,c.1.2)⟩,b.2++c.2)
  |_,_=>none
 |.nil,_=>some (⟨.nil,()⟩,[])
 |_,_=>none
theorem Gg {p:Program} {g:bO->Nat->Prop} {b:List (Nat×az)} (z:∀id t,ak b id=some t->aG g w t.1 (rt id) t.2 (fp id)) {m:Operand->ag} {h:Operand->Value} (y:∀c,bk g w b rt fp (m c) (h c)) {parts:List (Nat×Operand)} {cells:cI}:∀{u:af} {n:Nat} {r:List Field} {off:Nat} {zs:cI} {t:az} {ids:cO},gm p u r off zs->ke b m parts u n=some (t,ids)->cells.length=off+u.size->(∀d k e,dw u d=some (k,e)->(∀c,jk parts (n+d)=some c->(h c).cells.size=e.size/\(cells.drop (off+c9 u d)).take e.size=(h c).cells.toList)/\(jk parts (n+d)=none->(cells.drop (off+c9 u d)).take e.size=(zs.drop (c9 u d)).take e.size))->aG g w t.1 (cells.drop off) t.2 (ids.map fp).flatten/\t.1.size=u.size/\∀id∈ids,∃u,ak b id=some u
 |.pr a q,n,E::O,off,zs,t,ids,o,f,A,i=>by
  simp only[ke] at f;split at f
  case h_2=>cases f
  rename_i c l j C;cases f;obtain⟨F,s,G,⟨K,R,aq,M,N⟩,v⟩:=o;have x:=i 0 _ a rfl;simp only[lT,c9,mF] at x;have H:aG g w c.1.1 ((cells.drop off).take a.size) c.1.2 (c.2.map fp).flatten/\c.1.1.size=a.size/\∀id∈c.2,∃u,ak b id=some u:=by
   split at j
   ·rename_i J;split at j
    ·rename_i S D;cases j;obtain⟨L,T,P,Q,_,aP⟩:=ry s D;grind
    grind
   grind [Hz]
  have I:=Gg z y (parts:=parts) (cells:=cells) (u:=q) (n:=n+1) (off:=off+a.size) (zs:=zs.drop a.size) (t:=l.1) (ids:=l.2) v C (by grind [af.size]) (by
   intro d k e B;have:=i (d+1) (.snd::k) e (by simp[dw,B]);grind [List.drop_drop,c9])
  refine⟨⟨(c.2.map fp).flatten,(l.2.map fp).flatten,ab,?_,?_⟩,by grind [af.size],?_⟩
  ·grind
  ·simp_all
  grind
 |.nil,n,[],off,zs,t,ids,o,f,A,i=>by cases f;exact⟨⟨rfl,by grind [List.drop_eq_nil_iff,af.size]⟩,rfl,ab⟩
 |.pr _ _,_,[],_,_,_,_,b,_,_,_=>b.elim
 |.nil,_,_::_,_,_,_,_,b,_,_,_=>b.elim
 |.int _,_,_,_,_,_,_,b,_,_,_=>by cases b
 |.bool,_,_,_,_,_,_,b,_,_,_=>by cases b
 |.str,_,_,_,_,_,_,b,_,_,_=>by cases b
 |.aV _ _,_,_,_,_,_,_,b,_,_,_=>by cases b
 |.osl _,_,_,_,_,_,_,b,_,_,_=>by cases b
 |.ptr _ _,_,_,_,_,_,_,b,_,_,_=>by cases b
 |.optr _,_,_,_,_,_,_,b,_,_,_=>by cases b
 |.st _,_,_,_,_,_,_,b,_,_,_=>by cases b
 |.bP,_,_,_,_,_,_,b,_,_,_=>by cases b
theorem Gh {z:Program} {h:bO->Nat->Prop} {b:List (Nat×az)} (l:∀id t,ak b id=some t->aG h w t.1 (rt id) t.2 (fp id)) {j:Operand->ag} {i:Operand->Value} (k:∀e,bk h w b rt fp (j e) (i e)) {q:List (Nat×Operand)}:∀{u:af} {n:Nat} {B:List Field} {p:Nat} {y:cI} {t:az} {ids:cO},gm z u B p y->ke b j q u n=some (t,ids)->∀d s g,dw u d=some (s,g)->∀e,jk q (n+d)=some e->(i e).cells.size=g.size
 |.pr a A,n,I::P,p,y,t,ids,E,f,d,s,g,c,e,m=>by
  simp only[ke] at f;split at f
  case h_2=>cases f
  rename_i v x o G;obtain⟨J,C,K,⟨L,Q,aq,N,O⟩,D⟩:=E;cases d with
  |zero=>
   simp only[dw,bH,e9] at c;obtain⟨_,rfl⟩:=c;rw[lT] at m;rw[m] at o;obtain⟨H,M,_⟩:=Hz (t:=v.1) (ids:=v.2) l C (k e) o;have:=H.len;grind
  |succ d=>
   simp only[dw] at c;split at c
   ·rename_i r F;simp only[bH,e9] at c;obtain⟨_,rfl⟩:=c;exact Gh l k (u:=A) (n:=n+1) (t:=x.1) (ids:=x.2) D G d r.1 r.2 F e (by rwa[(U:n+1+d=n+(d+1))])
   grind
 |.pr _ _,_,[],_,_,_,_,b,_,_,_,_,_,_,_=>b.elim
 |.nil,_,_,_,_,_,_,_,_,_,_,_,c,_,_=>by cases c
 |.int _,_,_,_,_,_,_,b,_,_,_,_,_,_,_=>by cases b
 |.bool,_,_,_,_,_,_,b,_,_,_,_,_,_,_=>by cases b
 |.str,_,_,_,_,_,_,b,_,_,_,_,_,_,_=>by cases b
 |.aV _ _,_,_,_,_,_,_,b,_,_,_,_,_,_,_=>by cases b
 |.osl _,_,_,_,_,_,_,b,_,_,_,_,_,_,_=>by cases b
 |.ptr _ _,_,_,_,_,_,_,b,_,_,_,_,_,_,_=>by cases b
 |.optr _,_,_,_,_,_,_,b,_,_,_,_,_,_,_=>by cases b
 |.st _,_,_,_,_,_,_,b,_,_,_,_,_,_,_=>by cases b
 |.bP,_,_,_,_,_,_,b,_,_,_,_,_,_,_=>by cases b
theorem KT (am:o.op=.build c r) (F:iR E.tt c=some x) (d0:aT x n=true\/x=n) (R:jF r.toList 0=true) (B:∀d∈r.toList,Nat.blt d.1 (ek n)=true) (O:∀e k b,dw n e=some (k,b)->∀f,jk r.toList e=some f->(a.eval f).cells.size=b.size):∃h g p,gm E.P n h 0 g/\(execOp a.eval o).run E.P w=.ok (.value (.agg p)) w/\p.toList.length=n.size/\(∀e k b,dw n e=some (k,b)->(∀f,jk r.toList (0+e)=some f->(a.eval f).cells.size=b.size/\(p.toList.drop (0+c9 n e)).take b.size=(a.eval f).cells.toList)/\(jk r.toList (0+e)=none->(p.toList.drop (0+c9 n e)).take b.size=(g.drop (c9 n e)).take b.size)):=by
 obtain⟨l,h,g,S,cs,T,V,q,cv⟩:∃l h g,E.P.info? c=some l/\l.size=n.size/\l.zero=some (.agg g)/\E.P.underlying c=some (.struct h)/\gm E.P n h.toList 0 g.toList/\g.size=n.size:=by
  unfold iR at F;split at F
  ·rename_i em X;cases F;obtain⟨_,l,h,g,aq,d2,_,d3,d4,d5,d6⟩:=E.ok c _ X;grind [aT.size,gm.lay]
  grind
 have G:=run_places (P:=E.P) w n h.toList 0 g.toList q;simp only[h8] at G;generalize ds:((List.range (ek n)).map λm=>(c9 n m,match dw n m with|some d=>d.2.size|none=>0))=I at G;have v:∀m k b,dw n m=some (k,b)->m<ek n->I.toArray[m]?=some (c9 n m,b.size):=(by grind);obtain⟨p,bl,d7,bs,aP⟩:=u1 (λl=>I.toArray[l]?) (r.toList.map λd=>(d.1,a.eval d.2)) g (by
  intro d y;obtain⟨j,C,rfl⟩:=c4.1 y;have t:j.1<ek n:=eo (B j C);obtain⟨k,b,i⟩:=n8 q j.1 t;refine⟨_,_,v _ _ _ i t,O _ _ _ i j.2 ?_,by simp_all [sw]⟩;grind [Bk]) (by
  rw[tC];refine(Bl R).imp_of_mem ?_;intro d J y av t a4 ce d1 d8 ai L;have A:d.1<ek n:=eo (B d y);have Q:J.1<ek n:=eo (B J av);obtain⟨ci,co,s⟩:=n8 q d.1 A;obtain⟨d9,el,N⟩:=n8 q J.1 Q;rw[v _ _ _ s A] at ai;rw[v _ _ _ N Q] at L;cases ai;cases L;exact .inl (qP s N t))
 have a0:p.toList.length=n.size:=(by grind);refine⟨h.toList,g.toList,p,q,?_,a0,?_⟩
 ·have ap:(Array.map (λf=>(f.fst,a.eval f.snd)) r).toList=r.toList.map λd=>(d.1,a.eval d.2):=ab;have an:(h.mapM λM=>do Pure.pure (M.offset,<-sizeOf M.type):Sem (Array cy)).run E.P w=.ok I.toArray w:=by
   rw[Array.mapM_eq_mapM_toList,Sem.run_map,G];rfl
  have H:(zeroValue c).run E.P w=.ok (.agg g) w:=(by simp[zeroValue,typeInfo,S,T]);simp only[execOp,am,Instr.build,Sem.run_bind,H,run_underlying V,Result.andThen_ok,an,ap,Value.cells,bl];rfl
 intro e k b i;have Y:e<ek n:=A1 i;simp only[h8];have dl:=sw i;refine⟨λf D=>?_,λD=>?_⟩
 ·have Z:=vd D;have H:=O e k b i f D;refine⟨H,?_⟩;apply h4;intro z;rcases bj z b.size with u|u
  ·obtain⟨K,a3⟩:∃K,(a.eval f).cells[z]?=some K:=⟨_,tl U⟩;have:=aP (e,a.eval f) (c4.2 ⟨(e,f),Z,rfl⟩) _ _ (v _ _ _ i Y) z K a3;grind
  grind
 apply h4;intro z;rcases bj z b.size with u|u
 ·rw[ks u,ks u,jX,jX];simp only[tn];refine bs _ ?_;intro d y a4 ce ai;obtain⟨j,C,rfl⟩:=c4.1 y;have ad:=BC D j C;have A:j.1<ek n:=eo (B j C);obtain⟨ci,co,s⟩:=n8 q j.1 A;rw[v _ _ _ s A] at ai;cases ai;rcases Nat.lt_or_gt_of_ne ad with t|W
  ·have:=qP s i t;omega
  have:=qP i s W;omega
 grind
theorem bi.A6 {t:cG} (d:bi C st t w I rt fp):∀{a:cO},a.Nodup->(∀id∈a,∃b,ak st.h id=some b)->(a.map fp).flatten.Nodup
 |[],_,_=>by simp
 |i::a,r,e=>by obtain⟨k,l⟩:=h7.1 r;obtain⟨b,f⟩:=e i ab;simp only[eH,iE];refine hu.2 ⟨(d.tree i b f).2.1,bi.A6 d l (λid x=>e id (by grind)),λj m v o c=>?_⟩;subst c;obtain⟨y,q,n⟩:=hE.1 o;obtain⟨g,p,rfl⟩:=c4.1 q;obtain⟨u,s⟩:=e g (by grind);exact d.dis i g b u f s (λc=>k (c▸p)) j m n
theorem On (a:b∈(g.map fp).flatten):∃id∈g,b∈fp id:=by grind
def oV {k:Type} (tt:List (TypeId×af)) (m:List (Nat×af)) (e:List (Nat×az)) (h:Operand->ag) (a:Nat) (l:TypeId) (c:List (Nat×Operand)) (g:bc->Option k):Option k:=
 match iR tt l with
 |none=>none
 |some f=>match ak m a with
  |some (.st j)=>bif aT f j&&(jF c 0&&c.all (λi=>Nat.blt i.1 (ek j))) then match ak e a,ke e h c j 0 with
   |none,some (b,d)=>bif gY d then g ⟨some (a,.ref a []),d,[],[(a,⟨.st b.1,b.2⟩)]⟩ else none
   |_,_=>none
   else none
  |_=>bif jF c 0&&c.all (λi=>Nat.blt i.1 (ek f)) then match m1 h c f 0 with
   |some b=>g ⟨some (a,.val (.st b.1) b.2),[],[],[]⟩
   |none=>match ak e a,ke e h c f 0 with
    |none,some (b,d)=>bif gY d then g ⟨some (a,.ref a []),d,[],[(a,⟨.st b.1,b.2⟩)]⟩ else none
    |_,_=>none
   else none
theorem Ej {G:Type} {D:G} {q:bc->Option G} (V:o.op=.build c r) (O:o.dst=some b) (P:C.ok b) (v:iR E.tt c=some x) (A:aT x n=true\/x=n) (p:(jF r.toList 0&&r.toList.all (λm=>Nat.blt m.1 (ek n)))=true) (i:(match ak st.h b,ke st.h (aI st.g) r.toList n 0 with
  |none,some (d,e)=>bif gY e then q ⟨some (b,.ref b []),e,[],[(b,⟨.st d.1,d.2⟩)]⟩ else none
  |_,_=>none)=some D)
 (W:∀s,q s=some D->Q (s.app st)):c5 E C o st Q:=by
 split at i
 case h_2=>cases i
 rename_i d e R l;cases z:gY e with
 |false=>grind
 |true=>
 rw[z] at i;simp only[a5,ew] at p;obtain⟨H,J⟩:=p;rintro a w ⟨I,rt,fp,j⟩ next ap T
 have y:∀id d,ak st.h id=some d->aG (aY I C.B) w d.1 (rt id) d.2 (fp id):=λid d l=>(j.tree id d l).1;obtain⟨K,am,F,M,X,a4,N⟩:=KT (a:=a) (w:=w) V v A H J (by
  obtain⟨K,am,_,m⟩:=iR.ok v;intro Z ad an Y k a3;exact Gh y (λk=>j.aI k) (A.elim (λi=>gm.lay i m) (λi=>i▸m)) l Z ad an Y k (by rwa[h8]))
 obtain⟨u,a0,L⟩:=Gg y (λk=>j.aI k) (cells:=F.toList) M l U N;rw[mF] at u;refine c5.own (S:=e) (t:=⟨.st d.1,d.2⟩) (cs:=F.toList) (f:=(e.map fp).flatten) O P j T (.inr R) X (fu.refl w) rfl u (j.A6 (gY.ok z) L) (λav p=>?_) ?_
 ·grind
 have:=W _ i;rw[show(bc.mk (some (b,.ref b [])) e [] [(b,⟨.st d.1,d.2⟩)]).app st=⟨(b,.ref b [])::kill e [] st.g,(b,⟨.st d.1,d.2⟩)::del e st.h⟩ by
  show aB.mk ((b,_)::kL e [] st.g) ([_]++nS e st.h)=_;rw[pq,so];rfl] at this
 omega
theorem KJ {v:Type} {s:v} {p:bc->Option v} (l:o.op=.build c r) (i:o.dst=some b) (j:C.ok b) (a:oV E.tt k st.h (aI st.g) b c r.toList p=some s) (m:∀q,p q=some s->Q (q.app st)):c5 E C o st Q:=by
 unfold oV at a;split at a
 ·cases a
 rename_i t e;split at a
 ·rename_i u x;cases d:(aT t u&&(jF r.toList 0&&r.toList.all (λn=>Nat.blt n.1 (ek u)))) with
  |false=>grind
  |true=>
  rw[d] at a;simp only[cond_true] at a;have f:=d;rw[a5] at f;exact Ej l i j e (.inl f.1) f.2 a m
 cases d:(jF r.toList 0&&r.toList.all (λn=>Nat.blt n.1 (ek t))) with
 |false=>grind
 |true=>
 rw[d] at a;simp only[cond_true] at a;split at a
 ·rename_i y w;refine c5.eval (an:=[]) i j ?_;rw[l];simp only[eE,tS,e,d,cond_true,w];exact m _ a
 exact Ej l i j e (.inr rfl) d a m
def qr {h:Type} (tt:List (TypeId×af)) (j:List (Nat×af)) (f:List (Nat×az)) (a:Nat) (i:TypeId) (b:ag) (c:bc->Option h):Option h:=
 match ak tt i,ak f a with
 |some g,none=>match b with
  |.val e b=>bif aT g e then match ak j a with
   |some (.ptr .bn _)=>c ⟨some (a,.val (.ptr .bn e) (some b)),[],[],[]⟩
   |_=>c ⟨some (a,.ref a []),[],[],[(a,⟨.optr e,b⟩)]⟩
   else none
  |.ref id []=>match ak f id with
   |some d=>bif aT g d.1 then c ⟨some (a,.ref a []),[id],[],[(a,⟨.optr d.1,d.2⟩)]⟩ else none
   |none=>none
  |_=>none
 |_,_=>none
theorem KM {ad:Type} {X:ad} {O:bc->Option ad} (L:o.op=.box c m) (G:o.dst=some b) (H:C.ok b) (i:qr E.tt k st.h b c (aI st.g m) O=some X) (M:∀R,O R=some X->Q (R.app st)):c5 E C o st Q:=by
 unfold qr at i;split at i
 case h_2=>cases i
 rename_i y F T;split at i
 ·rename_i D Z r;cases e:aT y D with
  |false=>grind
  |true=>
  rw[e] at i;simp only[cond_true] at i;split at i
  ·rintro a w ⟨I,rt,fp,l⟩ next am K
   have n:=l.aI m;rw[r] at n;have J:=(E.ok c y F).lay e;generalize N:a.eval m=A at n;cases n with|val u=>
   rename_i z;have s:∀p d,aY I C.B p d->bB w (w.alloc (.cells z.toArray c)) d:=λp d e=>.of_heap ((fu.alloc w _).heap d (l.ib d (kN e)));have ce:Yields E C st a w I rt fp o (λP W=>Q ⟨(b,P)::st.g,W++st.h⟩):=by
    refine⟨.pointer (some ⟨w.heap.size,0,none⟩),w.alloc (.cells z.toArray c),λd=>I d\/d=w.heap.size,λ_=>[],λ_=>[],.val (.ptr .bn D) (some Z),[],?_,fu.alloc w _,λ_ i=>.inl i,?_,.nil,?_,M _ i⟩
    ·simp[execOp,L,N,Instr.box,newVar,newRow,mq J u.len u.one]
    ·rintro d (i|rfl)
     ·grind
     simp_all
    refine .val (τ:=.ptr .bn D) (x:=some Z) (cs:=[.pointer (some ⟨w.heap.size,0,none⟩)]) ⟨rfl,w.heap.size,0,z,rfl,.inr rfl,u.len,dt.alloc (λci A a0=>by grind),?_⟩;refine u.mono (λp d e=>⟨?_,s p d e⟩) ab;cases p
    ·exact .inl e
    exact e.imp .inl (λi=>i)
   exact ce.wp l G H (λP W ap w' bl av bs=>K _ ap w' bl av bs)
  refine c5.eval (an:=[]) G H ?_;rw[L];simp only[eE,tT,F,T,r,e,cond_true];exact M _ i
 ·rename_i id r;split at i
  case h_2=>cases i
  rename_i j U;cases e:aT y j.1 with
  |false=>grind
  |true=>
  rw[e] at i;rintro a w ⟨I,rt,fp,l⟩ next am K
  have n:=l.aI m;rw[r] at n;obtain⟨q,cv,Y⟩:=l.tree id j U;have J:=(E.ok c y F).lay e;generalize N:a.eval m=A at n;cases n with|ref V a4=>
  rw[U] at V;cases V;obtain⟨rfl,rfl,rfl⟩:=aJ.en.1 a4;have s:∀d,d<w.heap.size->bB w (w.alloc (.cells (rt id).toArray c)) d:=λd e=>.of_heap ((fu.alloc w _).heap d e);have co:aG (aY I C.B) (w.alloc (.cells (rt id).toArray c)) j.1 (rt id) j.2 (fp id):=q.mono (λp d e=>⟨e,s d (l.ib d (kN e))⟩) (λd e=>s d (Y d e).2.2.1);refine c5.own (S:=[id]) (t:=⟨.optr j.1,j.2⟩) (cs:=[.pointer (some ⟨w.heap.size,0,none⟩)]) (f:=w.heap.size::fp id) (v:=.pointer (some ⟨w.heap.size,0,none⟩)) (w':=w.alloc (.cells (rt id).toArray c)) G H l K (.inr T) ?_ (fu.alloc w _) rfl ⟨w.heap.size,0,fp id,rt id,rfl,rfl,q.len,dt.alloc (λci A a0=>by grind),gQ.alloc (by simp[q.len]),co⟩ (h7.2 ⟨λa3=>Nat.lt_irrefl _ (Y _ a3).2.2.1,cv⟩) ?_ ?_
  ·simp[execOp,L,N,Instr.box,newVar,newRow,mq J q.len q.one]
  ·intro d e;rcases dk.1 e with rfl|e
   ·simp_all
   grind
  have:=M _ i;rw[show(bc.mk (some (b,.ref b [])) [id] [] [(b,⟨.optr j.1,j.2⟩)]).app st=⟨(b,.ref b [])::kill [id] [] st.g,(b,⟨.optr j.1,j.2⟩)::del [id] st.h⟩ from rfl] at this;omega
 grind
def qt (c:List (Nat×az)) (a:af) (x:ag):Option (a.den×cO):=
 match x with
 |.ref id []=>match ak c id with
  |some d=>match fy a d.2 with
   |some b=>some (b,[id])
   |none=>none
  |none=>none
 |x=>match coe a x with
  |some b=>some (b,[])
  |none=>none
def qu (b:List (Nat×az)) (a:af):List ag->Option (List a.den×cD)
 |[]=>some ([],[])
 |x::e=>match qt b a x,qu b a e with
  |some d,some c=>some (d.1::c.1,d.2::c.2)
  |_,_=>none
theorem Lc {b:bO->Nat->Prop} (m:∀id n,ak e id=some n->aG b w n.1 (rt id) n.2 (fp id)) (k:dm E.P n c) (p:bk b w e rt fp d G) {j:n.den} (a:qt e n d=some (j,g)):aG b w n G.cells.toList j (g.map fp).flatten/\∀id∈g,∃r,ak e id=some r:=by
 unfold qt at a;split at a
 ·rename_i id;split at a
  case h_2=>cases a
  rename_i s f;split at a
  case h_2=>cases a
  rename_i t q;cases a;obtain⟨u,d⟩:=s;have l:=hM q;cases l;cases p with|ref h o=>
  rw[f] at h;cases h;obtain⟨rfl,rfl,rfl⟩:=aJ.en.1 o;have i:=m id _ f;rw[mq k i.len i.one];grind
 grind [Ak]
theorem Eu {e:List (Nat×az)} {c:af}:∀{b:List ag} {xs:List c.den} {is:cD},qu e c b=some (xs,is)->xs.length=b.length/\is.length=b.length/\∀(d:Nat) (h:c.den),xs[d]?=some h->∃(y:ag) (f:cO),b[d]?=some y/\is[d]?=some f/\qt e c y=some (h,f)
 |[],xs,is,a=>by cases a;grind
 |y::b,xs,is,a=>by
  simp only[qu] at a;split at a
  ·rename_i n g m i;cases a;obtain⟨j,k,l⟩:=Eu (xs:=g.1) (is:=g.2) i;grind
  grind
def oX {i:Type} (tt:List (TypeId×af)) (k:List (Nat×af)) (f:List (Nat×az)) (e:Operand->ag) (a:Nat) (j:TypeId) (g:Nat) (c:List (Nat×Operand)) (d:bc->Option i):Option i:=
 match eA tt j,ak f a with
 |some h,none=>
  match(match ak k a with|some (.osl t)=>t|_=>h) with
  |t=>bif aT h t&&Nat.ble t.size 2000&&Nat.ble g 1000&&ri c 0&&Nat.beq c.length g then
   match tW t (c.map λb=>e b.2) with
   |some l=>d ⟨some (a,.ref a []),[],[],[(a,⟨.osl t,l⟩)]⟩
   |none=>match qu f t (c.map λb=>e b.2) with
    |some b=>bif gY b.2.flatten then d ⟨some (a,.ref a []),b.2.flatten,[],[(a,⟨.osl t,b.1⟩)]⟩ else none
    |none=>none
  else none
 |_,_=>none
theorem KQ {el:Type} {d7:el} {a0:bc->Option el} (dl:o.op=.buildSlice c b r) (ce:o.dst=some l) (ci:C.ok l) (j:oX E.tt k st.h (aI st.g) l c b r.toList a0=some d7) (K:∀N,a0 N=some d7->Q (N.app st)):c5 E C o st Q:=by
 unfold oX at j;split at j
 case h_2=>cases j
 rename_i q bs co;generalize u:(match ak k l with|some (.osl d)=>d|_=>q)=d at j;simp only at j;cases i:(aT q d&&Nat.ble d.size 2000&&Nat.ble b 1000&&ri r.toList 0&&Nat.beq r.toList.length b) with
 |false=>grind
 |true=>
 rw[i] at j;simp only[cond_true] at j;split at j
 ·rename_i y d3;refine c5.eval (an:=k) ce ci ?_;rw[dl];simp only[eE,r2,bs,co];cases G:ak k l with
  |none=>
   rw[G] at u;simp only at u;subst u;simp only[i,cond_true,d3];exact K _ j
  |some m=>
   rw[G] at u;cases m<;>(simp only at u;subst u;simp only[i,cond_true,d3];exact K _ j)
 split at j
 case h_2=>cases j
 rename_i m d0;obtain⟨y,p⟩:=m;cases Z:gY p.flatten with
 |false=>grind
 |true=>
 rw[Z] at j;rintro a w ⟨I,rt,fp,A⟩ next go f8
 have f0:∀id d,ak st.h id=some d->aG (aY I C.B) w d.1 (rt id) d.2 (fp id):=λid d u=>(A.tree id d u).1;simp only[a5] at i;obtain⟨⟨⟨⟨eq,V⟩,W⟩,M⟩,a3⟩:=i;have V:=eo V;have W:=eo W;have a3:r.toList.length=b:=dW a3;obtain⟨d5,T,_,fs,ft⟩:=eA.ok bs;have J:=ft.lay eq;obtain⟨ap,gs,d6,_⟩:=J.info;have hw:=J.pos;obtain⟨ex,a4,bl⟩:=Eu d0;simp only[gR] at ex a4;have ge:y.length=b:=U;have hs:b*d.size<=16777216:=(by have:b*d.size<=1000*2000:=hH W V;omega);have X:∀(e:Nat) (m:Nat×Operand),r.toList[e]?=some m->∃(x:d.den) (s:cO),y[e]?=some x/\p[e]?=some s/\aG (aY I C.B) w d (a.eval m.2).cells.toList x (s.map fp).flatten/\∀id∈s,∃q,ak st.h id=some q:=(by intro e m D;have f5:e<y.length:=(by grind);obtain⟨k0,s,ai,gt,O⟩:=bl e y[e] ab;rw[gn,D] at ai;simp only[hl,bH] at ai;subst ai;obtain⟨io,is⟩:=Lc f0 J (A.aI m.2) O;grind);have Y:∀id∈p.flatten,∃q,ak st.h id=some q:=by
  intro id R;obtain⟨L,G,hi⟩:=hE.1 R;obtain⟨e,D,rfl⟩:=g9.1 G;have F:r.toList[e]?=some (r.toList[e]'(by omega)):=bA _
  grind
 obtain⟨d4,f3,f4⟩:∃d9:cG,(b*d.size=0->d9=#[])/\(b*d.size≠0->∃H,(zeroValue T).run E.P w=.ok H w/\d9=H.cells):=by
  by_cases z:b*d.size=0
  ·simp_all
  obtain⟨H,_,gl⟩:=dm.Be J;exact⟨H.cells,λj=>absurd j z,λ_=>⟨H,by simp[zeroValue,typeInfo,d6.info,gl ap d6.info],rfl⟩⟩
 obtain⟨av,d8,i8,jn,aP⟩:=u1 (λap=>some (ap*d.size,d.size)) (r.toList.map λm=>(m.1,a.eval m.2)) ((Array.range (b*d.size)).map (d4[· %d4.size]!)) (by
  intro m K;obtain⟨i3,f9,rfl⟩:=c4.1 K;obtain⟨e,D,rfl⟩:=g9.1 f9;have F:r.toList[e]?=some r.toList[e]:=ab;obtain⟨x,_,_,_,am,_⟩:=X e _ F;have N:=oi M e _ F;have:(e+1)*d.size<=b*d.size:=dG _ U;rw[e2,fG] at this;refine⟨_,_,rfl,by have:=am.len;omega,?_⟩;grind) (by
  rw[hg];intro e L D G f5 i1 jp i2 kd ai O;simp only[List.getElem_map,bH,e9] at ai O;simp only[gR] at D G;have fn:=oi M e r.toList[e] ab;have f2:=oi M L r.toList[L] ab;obtain⟨rfl,rfl⟩:=ai;obtain⟨rfl,rfl⟩:=O;left;rw[fn,f2];have:(0+e+1)*d.size<=(0+L)*d.size:=dG _ U;grind)
 have ic:av.size=b*d.size:=(by grind);have fz:∀n,n<w.heap.size->bB w (w.alloc (.cells av T)) n:=λn i=>.of_heap ((fu.alloc w _).heap n i);have fT:(p.map λs=>(s.map fp).flatten).flatten=(p.flatten.map fp).flatten:=by
  clear X Y bl Z j d0 a4
  induction p with
  |nil=>rfl
  |cons x L ii=>grind
 have f6:∀n∈(p.flatten.map fp).flatten,n<w.heap.size/\∃id∈p.flatten,∃q,ak st.h id=some q/\n∈fp id:=(by intro n i;obtain⟨id,R,i⟩:=On i;obtain⟨q,ad⟩:=Y id R;exact⟨((A.tree id q ad).2.2 n i).2.2.1,id,R,q,ad,i⟩);refine c5.own (S:=p.flatten) (t:=⟨.osl d,y⟩) (cs:=[.slice (some ⟨w.heap.size,0,none⟩) b b]) (f:=w.heap.size::(p.flatten.map fp).flatten) (v:=.slice (some ⟨w.heap.size,0,none⟩) b b) (w':=w.alloc (.cells av T)) ce ci A f8 (.inr co) ?_ (fu.alloc w _) rfl ?_ (h7.2 ⟨λf7=>Nat.lt_irrefl _ (f6 _ f7).1,A.A6 (gY.ok Z) Y⟩) ?_ ?_
 ·have gc:=J.sizeOf w;have hv:¬(16777216<b*d.size):=U;have ds:(Array.map (λx=>(x.fst,a.eval x.snd)) r).toList=r.toList.map λm=>(m.1,a.eval m.2):=ab;simp only[execOp,dl,Instr.buildSlice,Sem.run_bind,run_underlying fs,Result.andThen_ok,gc];rw[ah U];by_cases z:b*d.size=0
  ·rw[al z];obtain rfl:=f3 z;rw[ds];simp only[Sem.run_bind,Sem.run_pure,Result.andThen_ok,d8,newRow,newObj];rfl
  rw[ah z];obtain⟨H,gf,rfl⟩:=f4 z;rw[ds];simp only[Sem.run_bind,Sem.run_pure,Result.andThen_ok,gf,d8,newRow,newObj];rfl
 ·refine⟨some ⟨w.heap.size,0,none⟩,b,by rw[ge],.inr ⟨w.heap.size,0,p.map λs=>(s.map fp).flatten,rfl,by rw[fT],by grind,(by grind),gQ.alloc U,λe x hc am cv=>?_⟩⟩;have D:e<b:=(by grind);have F:r.toList[e]?=some (r.toList[e]'(by omega)):=by simp
  obtain⟨kg,s,d2,f1,d1,ad⟩:=X e _ F;rw[am] at d2;obtain rfl:=dp d2;rw[gn,f1] at cv;obtain rfl:=dp cv;refine⟨_,d1.len,dt.alloc (λd5 em hr=>?_),d1.mono (λi0 n i=>⟨i,fz n (A.ib n (kN i))⟩) (λn i=>?_)⟩
  ·have:=aP (r.toList[e].1,a.eval r.toList[e].2) (c4.2 ⟨r.toList[e],dj _,rfl⟩) _ _ rfl d5 em (by grind);have N:=oi M e _ F;grind
  grind
 ·intro n i;rcases dk.1 i with rfl|i
  ·exact .inl ⟨a2 _,ab⟩
  grind
 have:=K _ j;rw[show(bc.mk (some (l,.ref l [])) p.flatten [] [(l,⟨.osl d,y⟩)]).app st=⟨(l,.ref l [])::kill p.flatten [] st.g,(l,⟨.osl d,y⟩)::del p.flatten st.h⟩ by
  show aB.mk ((l,_)::kL _ [] st.g) ([_]++nS _ st.h)=_;rw[pq,so];rfl] at this
 omega
end
end
section
def gv:af->af
 |.osl a=>.aV .bn (gv a)
 |.st a=>.st (gv a)
 |.pr b c=>.pr (gv b) (gv c)
 |.mp a=>.dh .bn a
 |τ=>τ
def ph:af->Bool
 |.osl a|.st a=>ph a
 |.pr b c=>ph b&&ph c
 |.optr _|.bP=>false
 |_=>true
def pj:∀d:af,(gv d).den=d.den
 |.osl c=>congrArg List (pj c)
 |.st c=>pj c
 |.pr a b=>by show((gv a).den×(gv b).den)=(a.den×b.den);rw[pj a,pj b]
 |.int _|.bool|.str|.aV _ _|.ptr _ _|.optr _|.nil|.bP|.mp _|.dh _ _=>rfl
def iN (a:af) (b:a.den):(gv a).den:=cast (pj a).symm b
def KX {c:Type} (d:a=c) (e:List a=List c) (b:List a):cast e b=b.map (cast d):=by subst d;show b=b.map (λf=>f);simp
def KY {c C d:Type} (e:a=c) (f:C=d) (g:(a×C)=(c×d)) (b:a×C):cast g b=(cast e b.1,cast f b.2):=by subst e;subst f;rfl
def A9 (a:af) (b:List a.den):(iN (.osl a) b:List (gv a).den)=b.map (iN a):=KX (pj a).symm _ b
def MQ (a b:af) (c:a.den×b.den):(iN (.pr a b) c:(gv a).den×(gv b).den)=(iN a c.1,iN b c.2):=KY (pj a).symm (pj b).symm _ c
def qR:∀b:af,(gv b).size=b.size
 |.osl a=>rfl
 |.st a=>qR a
 |.pr c d=>by simp only[gv,af.size,qR c,qR d]
 |.int _|.bool|.str|.aV _ _|.ptr _ _|.optr _|.nil|.bP|.mp _|.dh _ _=>rfl
def s0 {B u:bO->Nat->Prop} {w:World} (i:∀c a,B c a->u c a):∀{τ:af} {g:cI} {d:τ.den} {h:cO},ph τ=true->aG B w τ g d h->(∀a∈h,u .bn a)->aG u w (gv τ) g (iN τ d) []
 |.osl f,g,t,h,j,b,k=>by
  obtain⟨l,K,G,b⟩:=b;have s:(iN (.osl f) t:List (gv f).den).length=List.length (α:=f.den) t:=(by rw[A9];simp);rcases b with⟨rfl,E,rfl,rfl⟩|⟨a,R,D,rfl,rfl,r,o,F,A⟩
  ·refine⟨rfl,none,0,by rw[G,s],by rw[s,E];simp,λ_=>rfl,.inl ?_⟩;rw[A9,E];rfl
  refine⟨rfl,_,K,by rw[G,s],by rw[s];exact o,(λb=>by cases b),?_⟩;refine .inr ⟨a,R,rfl,k a ab,λm d q=>?_⟩;rw[A9] at q;have q:(List.map (iN f) t)[m]?=some d:=q;rw[gn] at q;obtain⟨S,H,rfl⟩:=dH.1 q;have U:m<List.length (α:=f.den) t:=(ec.1 H).1;have O:D[m]?=some (D[m]'(by omega)):=bA _
  obtain⟨z,v,x,y⟩:=A m S _ H O;rw[qR];exact⟨z,v,x,s0 i j y (λn p=>k n (eJ _ (hE.2 ⟨_,dj _,p⟩)))⟩
 |.st f,g,d,h,j,b,k=>s0 (τ:=f) i j b k
 |.pr l a,g,d,h,j,b,k=>by
  simp only[ph,a5] at j;obtain⟨T,f2,rfl,r,o⟩:=b;have C:=MQ l a d;refine⟨[],[],rfl,?_,?_⟩
  ·rw[qR];have:=s0 i j.1 r (λn p=>k n (by simp[p]));rw[show(iN (.pr l a) d:(gv l).den×(gv a).den).1=iN l d.1 by rw[C]];exact this
  rw[qR];have:=s0 i j.2 o (λn p=>k n (by simp[p]));rw[show(iN (.pr l a) d:(gv l).den×(gv a).den).2=iN a d.2 by rw[C]];exact this
 |.int Q,g,d,h,_,b,_=>by obtain rfl:=aG.pure (τ:=.int Q) rfl b;exact b.mono (λc a e=>⟨i c a e,bB.refl _ _⟩) ab
 |.bool,g,d,h,_,b,_=>by obtain rfl:=aG.pure (τ:=.bool) rfl b;exact b.mono (λc a e=>⟨i c a e,bB.refl _ _⟩) ab
 |.str,g,d,h,_,b,_=>by obtain rfl:=aG.pure (τ:=.str) rfl b;exact b.mono (λc a e=>⟨i c a e,bB.refl _ _⟩) ab
 |.aV c f,g,d,h,_,b,_=>by obtain rfl:=aG.pure (τ:=.aV c f) rfl b;exact b.mono (λc a e=>⟨i c a e,bB.refl _ _⟩) ab
 |.ptr c f,g,d,h,_,b,_=>by obtain rfl:=aG.pure (τ:=.ptr c f) rfl b;exact b.mono (λc a e=>⟨i c a e,bB.refl _ _⟩) ab
 |.nil,g,d,h,_,b,_=>by obtain rfl:=aG.pure (τ:=.nil) rfl b;exact b.mono (λc a e=>⟨i c a e,bB.refl _ _⟩) ab
 |.optr _,_,_,_,j,_,_=>by cases j
 |.dh c f,g,d,h,_,b,_=>by obtain rfl:=aG.pure (τ:=.dh c f) rfl b;exact b.mono (λc a e=>⟨i c a e,bB.refl _ _⟩) ab
 |.mp f,g,d,h,_,b,k=>by
  cases d with
  |none=>exact⟨rfl,b.2⟩
  |some I=>
   obtain⟨a,L,J,r,o,N,F,A,M⟩:=b;refine⟨a,L,J,r,rfl,N,k a (by rw[o];simp),F,A,λm I P=>?_⟩;obtain⟨z,v,x,y⟩:=M m I P;exact⟨z,v,x,y.mono (λc a e=>⟨i c a e,bB.refl _ _⟩) ab⟩
 |.bP,_,_,_,j,_,_=>by cases j
def nX:az->ag
 |⟨.optr u,x⟩=>.val (.ptr .bn (gv u)) (some (iN u x))
 |⟨a,x⟩=>.val (gv a) (iN a x)
def Ba:af->Bool
 |.optr a=>ph a
 |τ=>ph τ
def eK (c:List (Nat×az)) (b:cO) (a:ag):ag:=
 match a with
 |.ref id []=>bif bV id b then match ak c id with
  |some d=>nX d
  |none=>.dead else .ref id []
 |a=>bif a.dB b then .dead else a
def ka (c:List (Nat×az)) (b:cO) (a:ag):(∃id d,a=.ref id []/\id∈b/\ak c id=some d/\eK c b a=nX d)\/(eK c b a=.dead/\a.dB b=true)\/(eK c b a=a/\a.dB b=false):=by
 have i:∀a:ag,eK c b a=(bif a.dB b then .dead else a)->(∃id d,a=.ref id []/\id∈b/\ak c id=some d/\eK c b a=nX d)\/(eK c b a=.dead/\a.dB b=true)\/(eK c b a=a/\a.dB b=false):=by
  intro a f;cases g:a.dB b with
  |true=>rw[g] at f;exact .inr (.inl ⟨f,rfl⟩)
  |false=>rw[g] at f;exact .inr (.inr ⟨f,rfl⟩)
 cases a with
 |ref id j=>
  cases j with
  |nil=>
   cases e:bV id b with
   |true=>
    have g:(ag.ref id []).dB b=true:=(by simp[ag.dB,ag.ids,e]);cases h:ak c id with
    |none=>exact .inr (.inl ⟨by simp[eK,e,h],g⟩)
    |some d=>exact .inl ⟨id,d,rfl,eQ.1 e,h,by simp[eK,e,h]⟩
   |false=>exact .inr (.inr ⟨by simp[eK,e],by simp[ag.dB,ag.ids,e]⟩)
  |cons k j=>exact i _ rfl
 |_=>exact i _ rfl
def ga (c:List (Nat×az)) (b:cO):ag->ag
 |.dg d=>.dg (d.map (eK c b))
 |a=>eK c b a
theorem A8 (b:∀a,d≠.dg a):ga e g d=eK e g d:=by
 cases d with
 |dg a=>exact absurd rfl (b a)
 |_=>rfl
def pi (a:cO) (st:aB):aB:=⟨st.g.map λb=>(b.1,ga st.h a b.2),del a st.h⟩
def Fr (c:ag->ag) (e:c .dead=.dead):∀(d:List (Nat×ag)) (b:Nat),gt (d.map λf=>(f.1,c f.2)) b=c (gt d b)
 |[],b=>e.symm
 |(g,a)::d,b=>by
  show gt ((g,c a)::_) b=_;rw[gw,gw];split
  ·rfl
  exact Fr c e d b
theorem ys (a:cO) (st:aB) (b:Nat):gt (pi a st).g b=ga st.h a (gt st.g b):=Fr (ga st.h a) rfl st.g b
def MR (a:cO) (st:aB):aI (pi a st).g=λb=>ga st.h a (aI st.g b):=by
 funext b;cases b with
 |tmp c=>exact ys a st c
 |const d=>cases d<;>rfl
 |func e=>rfl
 |global f=>rfl
theorem zB (a:d.dB g=false) (b:List (Nat×List aO)):di g b d=d:=by unfold di;rw[a];rfl
def Tx (a:(ag.dg L).dB g=false) (c:d∈L):d.dB g=false:=by unfold ag.dB at a|-;rw[rH] at a|-;intro id f;obtain⟨b,e,rfl⟩:=g9.1 c;exact a id (ag.vl (l:=L) (i:=b) (bA e) f)
theorem Tw (b:d.dB g=false) (a:List (Nat×List aO)):dJ g a d=d:=by
 cases d with
 |dg e=>
  simp only[dJ];rw[ht (λd c=>zB (Tx b c) a),List.map_id']
 |_=>exact zB b a
theorem MS (a:cO) (b:List (Nat×List aO)) (c:az):dJ a b (nX c)=di a b (nX c):=by unfold nX;split<;>rfl
def ti (a e:ag):Prop:=a=.dead\/a=e\/∃b c,a=.dg b/\e=.dg c/\b.length=c.length/\∀(f:Nat) (d g:ag),b[f]?=some d->c[f]?=some g->d=.dead\/d=g
section
variable {C:c8} {st:aB} {G:cG} {w:World}
def bi.freeze {f:Nat->Prop} (t:bi C st G w f z A) (W:∀id∈y,∃b,ak st.h id=some b/\Ba b.1=true):ez C (pi y st) G w:=by
 have N:=t.eT (S:=y) (keep:=[]) (new:=[]) (rtn:=z) (fpn:=A) (w':=w) (I':=λa=>f a\/∃id∈y,∃b,ak st.h id=some b/\a∈A id) ⟨a2 _,rfl,rfl,rfl,λ_ _ _=>rfl,λ_ _=>.refl _ _,λ_ c=>.inl c,λa c=>c.imp id λ⟨id,ad,b,r,n⟩=>
  ⟨((t.tree id b r).2.2 a n).2.2.1,.inr ⟨id,ad,b,r,n⟩⟩,(λ_ _ c=>by cases c),(λ_ _ _ _ c=>by cases c),(λ_ c=>by cases c),(λ_ c=>by cases c)⟩
 refine⟨_,_,_,{N with tmp:=λp=>?_}⟩;rw[ys];have o:=t.tmp p;have j:=N.tmp p;rw[show gt (aB.mk (kill y [] st.g) ([]++del y st.h)).g p=dJ y [] (gt st.g p) from n0 _ _ _ _] at j;generalize gt st.g p=k at o j;generalize G.getD p undef=e at o j;have H:∀(k:ag) (e:Value),bk (aY f C.B) w st.h z A k e->bk (aY (λa=>f a\/∃id∈y,∃b,ak st.h id=some b/\a∈A id) C.B) w ([]++del y st.h) (de [] z z) (de [] A A) (di y [] k) e->
  bk (aY (λa=>f a\/∃id∈y,∃b,ak st.h id=some b/\a∈A id) C.B) w ([]++del y st.h) (de [] z z) (de [] A A) (eK st.h y k) e:=by
  intro k e o j;rcases ka st.h y k with⟨id,b,i,l,m,V⟩|⟨i,_⟩|⟨i,l⟩
  ·rw[V];rw[i] at o;cases o with|ref r an=>
   rw[m] at r;cases r;obtain⟨rfl,rfl,rfl⟩:=aJ.en.1 an;obtain⟨ci,M,K⟩:=W id l;rw[m] at M;cases M;have J:∀u a,aY f C.B u a->aY (λa=>f a\/∃id∈y,∃b,ak st.h id=some b/\a∈A id) C.B u a:=by
    intro u a n;cases u
    ·exact .inl n
    exact n.imp .inl (λc=>c)
   have L:=(t.tree id b m).1;have v:∀a∈A id,aY (λa=>f a\/∃id∈y,∃b,ak st.h id=some b/\a∈A id) C.B .bn a:=λa n=>.inr ⟨id,l,b,m,n⟩;obtain⟨d,s⟩:=b;by_cases D:∃q,d=.optr q
   ·obtain⟨q,rfl⟩:=D;obtain⟨a,E,bl,Q,ai,I,R,T,a4,U⟩:=L;show bk _ _ _ _ _ (.val (.ptr .bn (gv q)) (some (iN q s))) _;have ai:z id=[.pointer (some ⟨a,E,none⟩)]:=ai;rw[ai];refine .val (τ:=.ptr .bn (gv q)) (x:=some (iN q s)) (cs:=[.pointer (some ⟨a,E,none⟩)]) ⟨rfl,a,E,Q,rfl,v a (by rw[I];exact lR ..),by rw[qR];exact R,T,s0 J K U (λP X=>v P (by rw[I];exact eJ _ X))⟩
   have av:bp d (z id)=bp (gv d) (z id):=(by cases d<;>rfl);have a0:nX ⟨d,s⟩=.val (gv d) (iN d s):=by cases d<;>first|rfl|exact absurd ⟨_,rfl⟩ D
   have ap:ph d=true:=by cases d<;>first|exact K|exact absurd ⟨_,rfl⟩ D
   rw[a0];show bk _ _ _ _ _ _ (bp d (z id));rw[av];exact .val (s0 J ap L v)
  ·rw[i];exact .dead _
  rw[i];rw[zB l] at j;exact j
 cases k with
 |dg ce=>
  cases o with|dg am Y=>
  cases j with|dg bs Z=>
  refine .dg (by simp[am]) (λO a3 e i l=>?_);rw[gn] at i;obtain⟨F,m,rfl⟩:=dH.1 i;exact H F e (Y O F e m l) (Z O _ e (by rw[gn,m];rfl) l)
 |_=>exact H _ _ o j
def ez.FU (y:ez C st G w) (E:∀b,ti (gt i.g b) (gt st.g b)) (k:∀id,ak i.h id=ak st.h id):ez C i G w:=by
 obtain⟨o,q,p,e⟩:=y;refine⟨o,q,p,{e with tree:=λid j m=>e.tree id j (by rw[<-k];exact m),dis:=λf K j M H I=>e.dis f K j M (by rw[<-k];exact H) (by rw[<-k];exact I),tmp:=λb=>?_}⟩;have t:∀(d:ag) (c:Value),bk (aY o C.B) w st.h q p d c->bk (aY o C.B) w i.h q p d c:=λd c A=>
  A.pE (λP N D=>⟨D,bB.refl _ _⟩) (λid _ j m=>⟨by rw[k];exact m,rfl,rfl,(e.tree id j m).1,λ_ _=>bB.refl _ _⟩)
 have l:=e.tmp b;rcases E b with a|a|⟨O,L,ai,u,v,x⟩
 ·rw[a];exact .dead _
 ·rw[a];exact t _ _ l
 rw[ai];rw[u] at l;generalize G.getD b undef=c at l;cases l with|dg J F=>
 refine .dg (v.trans J) (λf d c r z=>?_);obtain⟨n,s⟩:∃n,L[f]?=some n:=(by have:=(ec.1 r).1;exact⟨_,bA U⟩);rcases x f d n r s with a|a
 ·rw[a];exact .dead _
 rw[a];exact t _ _ (F f n c s z)
def ez.less (b:ez C st G w) (c:∀a,gt i.g a=.dead\/gt i.g a=gt st.g a) (d:∀id,ak i.h id=ak st.h id):ez C i G w:=
 b.FU (λa=>(c a).imp id .inl) d
end
def ox:Op->List Operand
 |.build _ c=>c.toList.map (·.2)
 |.buildSlice _ _ c=>c.toList.map (·.2)
 |.store _ _ a=>[a]
 |.mapUpdate _ _ _ a=>[a]
 |.insert _ _ _ a=>[a]
 |.entryStore _ _ _ a=>[a]
 |.box _ a=>[a]
 |.assign a=>[a]
 |.call b=>match b.callee with
  |.value _=>b.args.toList
  |.builtin .append=>b.args.toList.drop 1
  |_=>[]
 |_=>[]
def qQ (b:Oper):Nat:=match b.dst with
 |some a=>a
 |none=>999999
def jB (a:cQ) (c:Nat) (b:Operand->ag):List Operand->cO
 |[]=>[]
 |x::d=>match b x with
  |.ref id []=>bif a.any (λe=>Nat.beq e.1 c&&Nat.beq e.2 id) then id::jB a c b d else jB a c b d
  |_=>jB a c b d
end
section
def Aq {c d:List a} (e:l<=b) (f:b<=c.length):(iI c d l b).length=c.length:=by unfold iI;simp only[jZ,eD,kt];omega
def EB {d e:List a} (i:b<=l) (j:l<=d.length) (c:Nat):(iI d e b l)[c]?=if b<=c/\c<b+min e.length (l-b) then e[c-b]? else d[c]?:=by
 unfold iI;rw[List.getElem?_append];simp only[eD];rcases bj c b with f|f
 ·rw[al U,ah U,ks f]
 rw[ah U,List.getElem?_append];simp only[eD];have g:c-min b d.length=c-b:=U;rw[g];by_cases h:c<b+min e.length (l-b)
 ·rw[al U,al ⟨f,h⟩,ks U]
 rw[ah U,ah U,jX];congr 1;omega
def nJ {k:Type} (tt:List (TypeId×af)) (d:List (Nat×az)) (f:Nat) (l:TypeId) (m j:ag) (e:bc->Option k):Option k:=
 match eA tt l with
 |none=>none
 |some i=>match m with
  |.ref id []=>match ak d id with
   |some ⟨.osl a,b⟩=>bif aT i a&&Nat.beq a.size 1&&a.pure then
    (iy d a j).bind λc=>e ⟨some (f,.val (.int .i64) ((min c.length (b.length-0):Nat):Int)),[id],[(id,[])],[(id,⟨.osl a,iI b c 0 b.length⟩)]⟩
    else none
   |_=>none
  |.view id [] h g=>match ak d id with
   |some ⟨.osl a,b⟩=>bif aT i a&&Nat.beq a.size 1&&a.pure then
    (iy d a j).bind λc=>e ⟨some (f,.val (.int .i64) ((min c.length (g-h):Nat):Int)),[id],[(id,[])],[(id,⟨.osl a,iI b c h g⟩)]⟩
    else none
   |_=>none
  |_=>none
def bc.Kv {st:aB}:(bc.mk (some (b,d)) y f e).app st=⟨(b,d)::kill y f st.g,e++del y st.h⟩:=by show aB.mk ((b,d)::kL y f st.g) (e++nS y st.h)=_;rw[pq,so]
section
variable {E:dz} {C:c8} {st:aB} {a:Act} {w:World} {I:Nat->Prop} {rt:Nat->cI} {fp:Nat->cO} {o:Oper}
def C8 (e:bi C st a.tmps w I rt fp) {b:List n.den} (c:iy st.h n (aI st.g m)=some b):tN I C.B w n (a.eval m) b:=by
 refine ru e ?_;have:=wb c;generalize oz st.h n (aI st.g m)=i at this;cases i with
 |dc k=>exact this.symm
 |part l o j=>obtain⟨f,d,rfl⟩:=this;exact⟨f,d,rfl⟩
 |bad=>exact this.elim
def Ap (ds:bi C st a.tmps w I rt fp) {f9:Type} {f5:f9} {d7:bc->Option f9} {d6:Operand} (i2:o.op=.call {callee:=.builtin .copy,args:=#[m,d6],argTypes:=#[c,q]}) (Z:o.dst=some W) (hr:C.ok W) {next:Act->World->Prop} {d9:Exit->Act->World->Prop} (i1:∀f6 a4 w',(∃p,d7 p=some f5/\f6=p.app st)->a4.defers=a.defers->ez C f6 a4.tmps w'->next a4 w') (gt:eA E.tt c=some x) (i0:aT x n=true) (t:n.size=1) (am:n.pure=true) {id:Nat} {k g:List n.den} (O:ak st.h id=some ⟨.osl n,k⟩) (J:b<=l) (K:l<=k.length) (jn:tN I C.B w n (a.eval d6) g) {bl:Option Addr} {el:Nat} (f0:a.eval m=.slice bl (l-b) el) (i8:l-b=0\/∃d j V,rt id=[.slice (some ⟨d,j,none⟩) k.length V]/\bl=some ⟨d,j+b,none⟩) (gl:d7 ⟨some (W,.val (.int .i64) ((min g.length (l-b):Nat):Int)),[id],[(id,[])],[(id,⟨.osl n,iI k g b l⟩)]⟩=some f5):o.wp E.P a w next d9:=by
 obtain⟨f,d8,aq,fn,ge⟩:=eA.ok gt;have gf:=ge.lay i0;obtain⟨pm,_,a0,_⟩:=gf.info;obtain⟨d5,mo,f7⟩:=ds.tree id _ O;obtain⟨f8,mp,X,f2,d1,ib⟩:=jn;have eq:∀w':World,w'.heap.size=w.heap.size->w'.os=w.os->w'.tape=w.tape->w'.output=w.output->(∀d,d∉fp id->w'.heap[d]?=w.heap[d]?)->(∀d,gx w' d=gx w d)->aG (aY I C.B) w' (.osl n) (rt id) (iI k g b l) (fp id)->
  (Builtin.copy_ #[c,q] o.type #[a.eval m,a.eval d6]).run E.P w=.ok (goInt ((min g.length (l-b):Nat):Int)) w'->o.wp E.P a w next d9:=by
  intro w' le lk lo lp lt mc l2 N;have N:(execOp a.eval o).run E.P w=.ok (.value (goInt ((min g.length (l-b):Nat):Int))) w':=(by simp only[execOp,i2,resolve,invoke,builtin,Sem.run_bind,Sem.run_pure,Result.andThen_ok,tz,eH,List.map_nil,N]);have i3:=ds.eT (S:=[id]) (keep:=[(id,[])]) (new:=[(id,⟨.osl n,iI k g b l⟩)]) (rtn:=rt) (fpn:=fp) (w':=w') (I':=I)
   ⟨Nat.le_of_eq le.symm,lk,lo,lp,λd Y gs=>lt d (gs id ab _ O),λd _=>.of_eq (mc d),λ_ H=>H,λ_ H=>.inl H,(by
    intro f d4 s;rw[bG] at s;split at s
    ·rename_i p;subst p;cases s;exact⟨.inl ab,l2,mo,λd Y=>⟨(f7 d Y).1,by have:=(f7 d Y).2.2.1;omega,.inr ⟨_,ab,_,O,Y⟩⟩⟩
    ·cases s),(by
    intro f e rd rg s d3 ii;rw[bG] at s d3;split at s
    ·split at d3
     ·rename_i ai ce;exact absurd (ai.symm.trans ce) ii
     cases d3
    ·cases s),(by
    intro p A d4 an;simp only[eV] at A;subst A;have an:ak st.h id=some d4:=an;rw[O] at an;obtain rfl:=dp an;exact⟨⟨.osl n,iI k g b l⟩,by rw[bG,al rfl],rfl,rfl,⟨_,rfl⟩,λlb _ _ _ u=>by rw[yC] at u;cases u⟩),(by
    intro p A d4 _ lb _ _ _ _ _ Z;simp only[eV] at A;subst A;rw[qF] at Z;cases Z)⟩
  unfold Oper.wp;rw[N];show next (a.put o.dst _) w'
  rw[Z];have am:=i3.put hr (av:=.val (.int .i64) ((min g.length (l-b):Nat):Int)) (v:=goInt ((min g.length (l-b):Nat):Int)) (.val (τ:=.int .i64) (cs:=[.int .i64 _]) ⟨rfl,rfl⟩);have hrel:ez C ((bc.mk (some (W,.val (.int .i64) ((min g.length (l-b):Nat):Int))) [id] [(id,[])] [(id,⟨.osl n,iI k g b l⟩)]).app st) (a.put (some W) (goInt ((min g.length (l-b):Nat):Int))).tmps w':=(by rw[bc.Kv];exact⟨I,_,_,am⟩);exact i1 _ _ _ ⟨_,gl,rfl⟩ rfl hrel
 have is:Nat.min g.length (l-b)=min g.length (l-b):=rfl;by_cases u:min g.length (l-b)=0
 ·have hc:iI k g b l=k:=by
   apply h4;intro f;rw[EB J K,ah U]
  refine eq w rfl rfl rfl rfl (λ_ _=>rfl) (λ_=>rfl) (by rw[hc];exact d5) ?_;rw[f0,f2,u];exact run_copy_none w c q o.type d8 bl f8 _ _ _ _ fn (by rw[a0.info];simp[a0.size,t]) (by rw[is];exact u)
 rcases i8 with of|⟨d,j,V,fT,rfl⟩
 ·omega
 rw[fT] at d5;obtain⟨ne,n5,ai,ce⟩:=d5;simp only[fd,Value.slice.injEq,and_true] at ai;obtain⟨rfl,_,rfl⟩:=ai;rcases ce with⟨bs,_⟩|⟨nn,ps,G,bs,d2,co,cv,dl,ex⟩
 ·cases bs
 cases bs;have cv:k.length<=V:=cv;have co:G.length=k.length:=co;have hw:G.flatten=[]:=AY (λci L=>by
  obtain⟨f,s,rfl⟩:=g9.1 L;have or:f<k.length:=(by rw[<-co];exact s);obtain⟨D,_,_,F⟩:=ex f k[f] G[f] ab ab;exact F.pure am)
 rw[hw] at d2;obtain⟨ap,f4,kg,k0,la⟩:=d1.cells U;rw[t,Nat.mul_one] at f4;have f1:g≠[]:=λp=>(by rw[p] at u;simp at u);obtain⟨a3,rfl⟩:∃a3,f8=some a3:=by
  rcases d1.2 with H|⟨no,pr,rfl,_⟩
  ·exact absurd H f1
  exact⟨_,rfl⟩
 let i:=ap.take (min g.length (l-b))
 have ft:i.length=min g.length (l-b):=(by simp[i,f4]);have hi:∀e v,i[e]?=some v->ap[e]?=some v:=λe v r=>by
  rw[rJ] at r;split at r
  ·exact r
  cases r
 have d0:∀e,e<i.length->(w.cell? ⟨d,j+b+e,none⟩).isSome=true:=λe r=>(dl (j+b+e) U (by rw[t];omega)).1;have N:=run_copy_cells (P:=E.P) w c q o.type d8 d (j+b) (l-b) el a3 g.length mp i fn (by rw[a0.info];simp[a0.size,t]) (by rw[ft]) (λe v r=>k0 a3 rfl f1 e v (hi e v r)) d0 (λe r=>(dl (j+b+e) U (by rw[t];omega)).2) (λv y=>kg v (List.mem_of_mem_take y));have fs:d∈fp id:=(by rw[d2];simp);have go:∀R z,aY I C.B R z->z≠d:=λR z ad p=>ds.notM O d fs R (p▸ad);refine eq (w.setCells d (j+b) i) (s7 d i _ w) (nc d i _ w).1 (nc d i _ w).2.1 (nc d i _ w).2.2 (λz u=>vS d i _ w z (λp=>u (p▸fs))) (λz=>vj _ _ _ _ _) ?_ ?_
 ·rw[fT,d2];refine⟨some ⟨d,j,none⟩,V,by rw[Aq J K],.inr ⟨d,j,List.replicate k.length [],rfl,by rw[AY (λci L=>List.eq_of_mem_replicate L)],by rw[Aq J K];simp,by rw[Aq J K];exact cv,?_,?_⟩⟩
  ·intro e jp kd;obtain⟨mt,nd⟩:=dl e jp kd;exact⟨by rw[<-mt,(U:e=(j+b)+e-(j+b))];exact(CH d i (j+b) w d0 _).trans (by congr 1),by rw[World.frozen?_setCells];exact nd⟩
  intro f T ci Q L;have hv:ci=[]:=(by have:=j0 L;exact List.eq_of_mem_replicate this);subst hv;rw[EB J K] at Q;have f3:∀{D:cI} {T:n.den},aG (aY I C.B) w n D T []->aG (aY I C.B) (w.setCells d (j+b) i) n D T []:=λM=>M.mono (λR z ad=>⟨ad,oj (go R z ad)⟩) ab;split at Q
  ·rename_i on;have r:f-b<i.length:=U;have ic:X[f-b]?=some []:=by
    have fz:f-b<X.length:=(by rw[d1.1];omega);rw[bA fz];have:X[f-b]∈X:=dj fz;congr 1;exact(List.flatten_eq_nil_iff.1 ib) _ this
   have M:=la (f-b) T [] Q ic;rw[t,Nat.mul_one] at M;have hs:(ap.drop (f-b)).take 1=[i[f-b]]:=(by have io:f-b<ap.length:=U;rw[List.drop_eq_getElem_cons io];simp only[List.take_succ_cons,List.take_zero,fd,and_true];simp[i]);rw[hs] at M;refine⟨[i[f-b]],by simp[t],?_,f3 M⟩;intro e v y;cases e with
   |zero=>
    simp only[iF,bH] at y;subst y;have:=World.cell?_setCells_in d i (j+b) w d0 (f-b) r;rw[<-this,t];congr 2;omega
   |succ e=>simp at y
  rename_i pl;have ol:f<k.length:=(ec.1 Q).1;obtain⟨D,em,gc,F⟩:=ex f T (G[f]'(by omega)) Q ab
  have A:G[f]'(by omega)=[]:=F.pure am
  rw[A] at F;refine⟨D,em,?_,f3 F⟩;intro e v y;have:=gc e v y;have r:e<D.length:=(ec.1 y).1;rw[World.cell?_setCells_out d i (j+b) w _ (λ_ _=>?_)]
  ·exact this
  rw[em,t] at r;simp only[t];omega
 rw[f0,f2];have:goInt ((min g.length (l-b):Nat):Int)=goInt i.length:=(by rw[ft]);rw[this];exact N
theorem c5.copy {S:Type} {O:S} {H:bc->Option S} {R:Operand} (B:o.op=.call {callee:=.builtin .copy,args:=#[m,R],argTypes:=#[c,q]}) (x:o.dst=some b) (y:C.ok b) (d:nJ E.tt st.h b c (aI st.g m) (aI st.g R) H=some O):c5 E C o st (λY=>∃L,H L=some O/\Y=L.app st):=by
 rintro a w ⟨I,rt,fp,f⟩ next an A
 have k:=f.aI m;unfold nJ at d;split at d
 ·cases d
 rename_i P D;split at d
 ·rename_i id v;split at d
  case h_2=>cases d
  rename_i j Q i;cases e:(aT P j&&Nat.beq j.size 1&&j.pure) with
  |false=>rw[e] at d;cases d
  |true=>
  rw[e] at d;simp only[a5] at e;obtain⟨ad,p,d⟩:=bS.1 d;rw[v] at k;generalize n:a.eval m=Z at k;cases k with|ref l z=>
  rw[i] at l;cases l;obtain⟨rfl,rfl,rfl⟩:=aJ.en.1 z;have G:=(f.tree id _ i).1;obtain⟨J,s,ai,M⟩:=G;have U:a.eval m=.slice J (Q.length-0) s:=(by rw[n,ai];rfl);refine Ap f B x y A D e.1.1 (dW e.1.2) e.2 i (eL _) (a2 _) (C8 f p) U ?_ d;rcases M with⟨_,rfl,_⟩|⟨r,F,ap,rfl,_⟩
  ·exact .inl rfl
  exact .inr ⟨r,F,s,ai,rfl⟩
 ·rename_i id X av v;split at d
  case h_2=>cases d
  rename_i j Q i;cases e:(aT P j&&Nat.beq j.size 1&&j.pure) with
  |false=>rw[e] at d;cases d
  |true=>
  rw[e] at d;simp only[a5] at e;obtain⟨ad,p,d⟩:=bS.1 d;rw[v] at k;generalize n:a.eval m=Z at k;cases k with|jm=>(exact Ap f B x y A D e.1.1 (dW e.1.2) e.2 i (a2 _) (eL _) (C8 f p) n (.inl rfl) d)|view l z V W a0=>
  rw[i] at l;cases l;rename_i am a4 r F a3 s;obtain⟨t,_,u⟩:=aJ.en.1 z;have t:af.osl j=af.osl am:=t;cases t;have N:=dW e.1.2;have G:=(f.tree id _ i).1;obtain⟨J,K,ai,M⟩:=G;rw[ai] at u;simp only[fd,Value.slice.injEq,and_true] at u;obtain⟨rfl,rfl,rfl⟩:=u;refine Ap f B x y A D e.1.1 N e.2 i V W (C8 f p) n ?_ d;by_cases T:K=X
  ·left;omega
  exact .inr ⟨r,F,K,ai,by rw[ah T,N,Nat.mul_one]⟩
 cases d
end
end
section
def aJ.cells {w q:World} (e:∀a,q.cell? a=w.cell? a):∀{p:List aO} {τ r:af} {m n:Loc} {f g:cI},aJ w τ m f p r n g->aJ q τ m f p r n g
 |[],τ,_,_,_,_,_,c=>by cases τ<;>exact c
 |s::p,τ,r,m,n,f,g,c=>by
  have u:∀{b o:Nat} {d:cI},dt w b o d->dt q b o d:=λy A C z=>(by rw[e];exact y A C z);cases τ<;>cases s<;>simp only[aJ] at c
  case osl.idx t i=>
   obtain⟨b,o,B,v,d,h,j,k,l,x⟩:=c;exact⟨b,o,B,v,d,h,j,k,u l,x.cells e⟩
  case optr.deref t=>
   obtain⟨b,o,d,h,j,k,l⟩:=c;exact⟨b,o,d,h,j,u k,l.cells e⟩
  case st.unst t=>exact aJ.cells e (τ:=t) c
  case pr.fst a b=>exact aJ.cells e (τ:=a) c
  case pr.snd a b=>exact aJ.cells e (τ:=b) c
def Tk (a:af):dn a []=some a:=by cases a<;>rfl
def aJ.tc {w:World} {r:List aO}:∀{p:List aO} {τ c:af} {m n:Loc} {e f:cI},aJ w τ m e p c n f->dn τ (p++r)=dn c r
 |[],τ,_,_,_,_,_,a=>by obtain⟨rfl,_⟩:=aJ.en.1 a;rfl
 |s::p,τ,_,_,_,_,_,a=>by
  cases τ<;>cases s<;>simp only[aJ] at a
  case osl.idx t i=>obtain⟨d,o,u,q,g,h,j,k,b,l⟩:=a;exact l.tc
  case optr.deref t=>obtain⟨d,o,g,h,j,k,b⟩:=a;exact b.tc
  case st.unst t=>exact aJ.tc (p:=p) (τ:=t) a
  case pr.fst t1 t2=>exact aJ.tc (p:=p) (τ:=t1) a
  case pr.snd t1 t2=>exact aJ.tc (p:=p) (τ:=t2) a
section
variable {E:dz} {C:c8} {st:aB} {a:Act} {A:cG} {w:World} {I:Nat->Prop} {rt:Nat->cI} {fp:Nat->cO} {o:Oper} {Q:aB->Prop}
def EF:∀{p q:List aO},ig (p++[.deref]) q=true->ig p q=true
 |[],q,a=>by
  cases q with
  |nil=>cases a
  |cons s q=>
   cases s<;>cases a
 |s::p,[],a=>by cases s<;>cases a
 |s::p,b::q,a=>by cases s<;>cases b<;>first|(cases a;done)|exact EF (p:=p) (q:=q) a|rfl
def bi.yN (y:bi C st A w I rt fp) {id:Nat} (p:ak st.h id=some F) {av:Loc} (W:aJ w F.1 none (rt id) j x av H) {am:List (Int×n.den)} (d1:bN F.1 F.2 j (.mp n) (some (am,b))):∃c L J,H=[.map (some c)]/\c∈fp id/\(∀q a,aY I C.B q a->a≠c)/\eW (aY I C.B) w n c am b L J/\∀{k:Array MapEntry} {e:Nat} {G:List (Int×n.den)} {R:List (Int×Nat×n.den)} {s:F.1.den},eW (aY I C.B) (et w c k e) n c G e k R->h0 w (et w c k e) c->df F.1 F.2 j (.mp n) (some (G,e)) s->∃fz bl,bi C ⟨kill [id] [(id,j++[.deref])] st.g,(id,⟨F.1,s⟩)::del [id] st.h⟩ A (et w c k e) I fz bl:=by
 obtain⟨d9,N,T⟩:=y.tree id F p;obtain⟨gc,f3,f5,ft,bs,ce,ci,v,f6,co,cs⟩:=u3 j (loc:=none) d9 (λ_ _ l=>by cases l) N (λ_ _ l=>by cases l) (y.notM p) d1;obtain⟨a3,ai,K⟩:=W.hn bs;subst a3;subst ai;subst K;obtain⟨c,L,J,rfl,rfl,M⟩:=ce.Gm;have z:c∈fp id:=v.mem_iff.2 ab;have S:∀q a,aY I C.B q a->a≠c:=λq a d f=>y.notM p c z q (f▸d);refine⟨c,L,J,rfl,z,S,M,?_⟩;intro k e G R s dl ds Z;have X:=v.nodup_iff.1 N;rw[hu] at X;have Y:∀a∈ft,a≠c:=λa d f=>X.2.2 c ab a d f.symm;have D:=St (es':=k) (c':=e) M.h;have d0:=Su (es':=k) (c':=e) M.h;have ad:∀a,a≠c->bB w (et w c k e) a:=λa d=>zo d;obtain⟨f4,a4,em,_,eq,_,P,_,f8⟩:=co (et w c k e) (aY I C.B) [.map (some c)] (some (G,e)) [c] s (λ_ _ l=>l) (λa d=>by
   have d3:a≠c:=by
    rcases d with⟨q,d4⟩|d|⟨o,d7⟩
    ·exact S q a d4
    ·exact Y a d
    cases d7
   exact⟨λu _=>D _,λu=>d0 _,λu=>by rw[D],(ad a d3).2⟩)
  (aG.Gn dl) (λ_ _=>rfl) (λa0 ex f=>by
   have:=(ci a0 ex f).1;exactλu ap t=>by rw[D];exact this u ap t) Z
 obtain rfl:=eq rfl (.inr rfl);have f7:=(T c z).2.2.1;have i:kz C st w (et w c k e) I I rt fp [id] [(id,j++[.deref])] [(id,⟨F.1,s⟩)] (λ_=>rt id) (λ_=>a4):=by
  refine⟨by rw[Is];exact a2 _,rfl,rfl,rfl,?_,?_,λ_ l=>l,λ_ l=>.inl l,?_,?_,?_,?_⟩
  ·intro a _ d;exact vT (λf=>d id ab F p (f▸z))
  ·intro a _;by_cases f:a=c
   ·subst f;exact ds
   exact .of_heap (vT f)
  ·intro O Q i;rw[bG] at i;split at i
   ·rename_i f;subst f;cases i;refine⟨.inl ab,em,?_,λa d=>?_⟩
    ·rw[P.nodup_iff,<-v.nodup_iff];exact N
    have V:a∈fp id:=v.mem_iff.2 (P.mem_iff.1 d);obtain⟨aq,fn,fs,gf⟩:=T a V;exact⟨aq,by rw[Is];exact fs,.inr ⟨id,ab,F,p,V⟩⟩
   cases i
  ·intro O u Q ap m t d2;rw[bG] at m t;split at m
   ·split at t
    ·rename_i ai K;exact absurd (ai.symm.trans K) d2
    cases t
   cases m
  ·intro O m Q i;simp only[eV] at m;subst m;rw[p] at i;obtain rfl:=dp i;refine⟨⟨F.1,s⟩,by rw[bG,al rfl],rfl,rfl,?_,λan gs ge f1 _ d8=>d8.cells D⟩;have cv:=W.tc (r:=[.deref]);have:∃fT,dn (.mp n) [.deref]=some fT:=⟨n,Tk n⟩;rw[cv];exact this
  intro O m Q i an go gl f9 f0 f2 E d6 d5 U el;simp only[eV] at m;subst m;rw[p] at i;obtain rfl:=dp i;have E:=EF E;refine⟨⟨F.1,s⟩,by rw[bG,al rfl],qG E Z U,λa d=>?_⟩;obtain⟨aq,fn⟩:=cs an _ _ _ _ _ E (by exact d6) U d5 el a d;exact⟨P.mem_iff.2 (ku _ aq),ad a (Y a aq)⟩
 exact⟨_,_,y.eT i⟩
def n4 {α:Type} (c:Option (List (Int×α)×Nat)) (b:Int) (d:α):Option (Option (List (Int×α)×Nat)):=match c with
 |none=>none
 |some a=>some (some (gh a.1 b d,bif (dK a.1 b).isSome then a.2 else a.2+1))
def ly {f:Type} (tt:List (TypeId×af)) (i:List (Nat×az)) (h:TypeId) (n d m:ag) (g:bc->Option f):Option f:=
 match n with
 |.ref id c=>match ak i id with
  |some a=>match it tt h,d,m with
   |some l,.val (.int .i64) d,.val p e=>match dn a.1 c with
    |some (.mp b)=>bif aT l b then match fy b e with
     |some e=>(fl a.1 a.2 c (.mp b)).bind λj=>(n4 (α:=b.den) j d e).bind λk=>(jJ a.1 a.2 c (.mp b) k).bind λo=>g ⟨none,[id],[(id,c++[.deref])],[(id,⟨a.1,o⟩)]⟩
     |none=>none
     else none
    |_=>none
   |_,_,_=>none
  |none=>none
 |_=>none
def Od {α:Type} (c:Option (List (Int×α)×Nat)) (b:Int):Option (Option (List (Int×α)×Nat)):=match c with
 |none=>none
 |some a=>some (some (gN a.1 b,a.2))
def n6 {e:Type} (tt:List (TypeId×af)) (h:List (Nat×az)) (g:TypeId) (l d:ag) (f:bc->Option e):Option e:=
 match l with
 |.ref id b=>match ak h id with
  |some a=>match it tt g,d with
   |some k,.val (.int .i64) d=>match dn a.1 b with
    |some (.mp c)=>bif aT k c then
     (fl a.1 a.2 b (.mp c)).bind λi=>(Od (α:=c.den) i d).bind λj=>(jJ a.1 a.2 b (.mp c) j).bind λm=>f ⟨none,[id],[(id,b++[.deref])],[(id,⟨a.1,m⟩)]⟩
     else none
    |_=>none
   |_,_=>none
  |none=>none
 |_=>none
theorem Gt {D:Type} {A:D} {s:bc->Option D} {f e:Operand} (j:o.op=.mapUpdate c f m e\/o.op=.insert c f m e) (T:o.dst=none) (b:ly E.tt st.h c (aI st.g f) (aI st.g m) (aI st.g e) s=some A):c5 E C o st (λco=>∃u,s u=some A/\co=u.app st):=by
 rintro a w ⟨I,rt,fp,i⟩ next d3 X
 have q:=i.aI f;have d:=i.aI m;have p:=i.aI e;unfold ly at b;split at b
 case h_2=>cases b
 rename_i id d7 J;split at b
 case h_2=>cases b
 rename_i fs y;split at b
 case h_2=>cases b
 rename_i dl k fn eq S F H;obtain⟨ds,d2,cs,cv,d8⟩:=it.ok S;split at b
 case h_2=>cases b
 rename_i r Z;cases n:aT dl r with
 |false=>rw[n] at b;cases b
 |true=>
 rw[n] at b;simp only[cond_true] at b;split at b
 case h_2=>cases b
 rename_i em an;obtain⟨a3,V,L⟩:=bS.1 b;obtain⟨d6,v,M⟩:=bS.1 L;obtain⟨ex,ap,N⟩:=bS.1 M;cases a3 with
 |none=>cases v
 |some a4=>
 obtain⟨av,t⟩:=a4;cases v;cases hM an;rw[J] at q;rw[F] at d;rw[H] at p;generalize am:a.eval f=el at q;generalize W:a.eval m=d5 at d;generalize ad:a.eval e=d9 at p;cases d with|val ce=>
 obtain⟨_,rfl⟩:=ce;cases p with|val B=>
 cases q with|ref z x=>
 rw[y] at z;cases z;obtain⟨l,d4,d0,rfl,n,Q,O,U⟩:=i.yN y x (gb V);have:=x.ty;rw[Z] at this;cases this;obtain⟨G,d1,aq,bl,bs⟩:=O.update (P:=E.P) cs cv k B.len B;obtain⟨ci,K,R⟩:=U (bl (λa0 m d=>⟨d,Q a0 m d⟩)) bs (km ap);unfold Oper.wp;have Y:(execOp a.eval o).run E.P w=.ok .skip (et w l G (bif (dK av k).isSome then t else t+1)):=by
  have this:∀r:af,bp (.mp r) [Value.map (some l)]=.map (some l):=λ_=>rfl;rcases j with j|j<;>
  ·simp only[execOp,j,am,W,ad,Sem.run_bind];rw[this,show bp (.int .i64) [Value.int .i64 k]=.int .i64 k from rfl,aq];rfl
 rw[Y];show next (a.put o.dst undef) _
 rw[T];refine X _ _ _ ⟨_,N,?_⟩ rfl ⟨I,ci,K,R⟩;rfl
theorem Om {y:Type} {x:y} {p:bc->Option y} {e:Operand} (U:o.op=.call {callee:=.builtin .delete,args:=#[e,m],argTypes:=#[c,q]}) (O:o.dst=none) (b:n6 E.tt st.h c (aI st.g e) (aI st.g m) p=some x):c5 E C o st (λa3=>∃r,p r=some x/\a3=r.app st):=by
 rintro a w ⟨I,rt,fp,i⟩ next cv T
 have k:=i.aI e;have d:=i.aI m;unfold n6 at b;split at b
 case h_2=>cases b
 rename_i id d2 D;split at b
 case h_2=>cases b
 rename_i d6 u;split at b
 case h_2=>cases b
 rename_i bs l N A;obtain⟨ce,cs,a4,bl,d3⟩:=it.ok N;split at b
 case h_2=>cases b
 rename_i n W;cases j:aT bs n with
 |false=>rw[j] at b;cases b
 |true=>
 rw[j] at b;simp only[cond_true] at b;obtain⟨ad,R,G⟩:=bS.1 b;obtain⟨d1,s,H⟩:=bS.1 G;obtain⟨d5,Y,J⟩:=bS.1 H;cases ad with
 |none=>cases s
 |some am=>
 obtain⟨d0,z⟩:=am;cases s;rw[D] at k;rw[A] at d;generalize X:a.eval e=d4 at k;generalize S:a.eval m=ds at d;cases d with|val av=>
 obtain⟨_,rfl⟩:=av;cases k with|ref v t=>
 rw[u] at v;cases v;obtain⟨f,dl,ci,rfl,j,L,K,Q⟩:=i.yN u t (gb R);have:=t.ty;rw[W] at this;cases this;obtain⟨B,co,aq,an,ap⟩:=K.delete (P:=E.P) a4 bl l o.type q;obtain⟨a0,F,M⟩:=Q (an (λZ m d=>⟨d,L Z m d⟩)) ap (km Y);unfold Oper.wp;have V:(execOp a.eval o).run E.P w=.ok (.value (.tuple #[])) (et w f B z):=(by simp only[execOp,U,resolve,invoke,builtin,Sem.run_bind,Sem.run_pure,Result.andThen_ok,tz,eH,List.map_nil,X,S];have this:∀n:af,bp (.mp n) [Value.map (some f)]=.map (some f):=λ_=>rfl;rw[this,show bp (.int .i64) [Value.int .i64 l]=.int .i64 l from rfl,aq];rfl);rw[V];show next (a.put o.dst (.tuple #[])) _
 rw[O];refine T _ _ _ ⟨_,J,?_⟩ rfl ⟨I,a0,F,M⟩;rfl
def rb (c:List (Nat×az)) (f g:ag):Option (Nat×List aO×Nat×az):=match f,g with
 |.ref id (e::d),.ref a []=>match ak c a with
  |some b=>match b.1 with
   |.osl h=>match h.pure with
    |true=>none
    |false=>some (id,e::d,a,b)
   |_=>none
  |none=>none
 |_,_=>none
def tP {h:Type} (tt:List (TypeId×af)) (e:List (Nat×az)) (b:Nat) (j:TypeId) (id:Nat) (c:List aO) (f:Nat) (k:az) (i:bc->Option h):Option h:=
 match eA tt j,ak e id,ak e b with
 |some l,some d,none=>match dn d.1 c with
  |some (.osl a)=>match fy (.osl a) k.2 with
   |some g=>bif aT l a&&(Nat.ble a.size 1300&&(a.hS&&!(Nat.beq f id))) then
    (fl d.1 d.2 c (.osl a)).bind λm=>(dd (List.length (α:=a.den) m+List.length (α:=a.den) g)).bind λ_=>i ⟨some (b,.app id c a g [b,f]),[id],[(id,c),(id,[])],[(b,⟨.bP,()⟩),(id,d)]⟩
    else none
   |none=>none
  |_=>none
 |_,_,_=>none
def li {g:Type} (tt:List (TypeId×af)) (h:List (Nat×af)) (a:List (Nat×az)) (d:Nat) (c:TypeId) (e f:ag) (b:bc->Option g):Option g:=match rb a e f with
 |some (id,j,i,k)=>tP tt a d c id j i k b
 |none=>l0 tt h a d c e f b
def Ch {id:Nat} (a:rb e d t=some (id,j,b,F)):d=.ref id j/\t=.ref b []/\ak e b=some F:=by
 unfold rb at a;split at a
 ·split at a
  ·rename_i f c;split at a
   ·split at a
    ·cases a
    cases a;exact⟨rfl,rfl,c⟩
   cases a
  cases a
 cases a
theorem Ks {K:Type} {F:K} {s:bc->Option K} {H:Operand} (z:o.op=.call {callee:=.builtin .append,args:=#[H,m],argTypes:=#[c,c]}) (v:o.dst=some b) (x:C.ok b) (d:li E.tt k st.h b c (aI st.g H) (aI st.g m) s=some F):c5 E C o st (λbl=>∃e,s e=some F/\bl=e.app st):=by
 unfold li at d;split at d
 case h_2=>exact c5.app z v x (Kp d (λe q=>⟨e,q,rfl⟩))
 rename_i id ds i bs ad;obtain⟨R,S,n⟩:=Ch ad;unfold tP at d;split at d
 case h_2=>cases d
 rename_i ce d5 P an Q;split at d
 case h_2=>cases d
 rename_i j cs;split at d
 case h_2=>cases d
 rename_i d3 av;cases f:(aT ce j&&(Nat.ble j.size 1300&&(j.hS&&!(Nat.beq i id)))) with
 |false=>rw[f] at d;cases d
 |true=>
 rw[f] at d;simp only[a5] at f;obtain⟨V,am,Y,l⟩:=f;have l:i≠id:=λe=>(by subst e;rw[oJ] at l;cases l);obtain⟨d2,ap,N⟩:=bS.1 d;obtain⟨_,W,O⟩:=bS.1 N;obtain⟨d4,J⟩:=bs;cases hM av;rintro a w ⟨I,rt,fp,p⟩ next ci Z
 refine DV (S2:=[i]) z v x p Z P V (eo am) Y R an Q (gb ap) ?_ ?_ (sG W) ⟨_,O,rfl⟩
 ·have r:=p.aI m;rw[S] at r;generalize cv:a.eval m=d1 at r;cases r with|ref D X=>
  rw[n] at D;cases D;obtain⟨rfl,rfl,rfl⟩:=aJ.en.1 X;obtain⟨G,a4,d0⟩:=p.tree i _ n;have a0:=G;obtain⟨t,u,A,co⟩:=a0;have a3:aG (aY I C.B) w (.osl j) [.slice t (List.length (α:=j.den) J) u] J (fp i):=(by rw[<-A];exact G);obtain⟨_,_,M,q,T,U,_⟩:=hC.osl a3;exact⟨t,u,M,by rw[A];rfl,q,U a4,λL f=>⟨i,ab,_,n,T L f⟩⟩
 intro dl y;simp only[eV] at y;subst y;exact⟨l,_,n⟩
end
end
section
section
variable {P:Program} {w:World} {b c:Nat} {A:Array MapEntry} {M:bO->Nat->Prop} {t:af} {l:List (Int×t.den)} {L:List (Int×Nat×t.den)}
def CI {d f:Array MapEntry} {e:Nat} (g:w.heap[b]?=some (.map A c)) (h:et w b d W=et w b f e):d=f/\W=e:=by have a:=kX (es':=d) (c':=W) g;rw[h,kX g] at a;simp only[bH,Obj.map.injEq] at a;exact⟨a.1.symm,a.2.symm⟩
def eW.D5 (f:eW M w t b l c A L) (h:A[W]?=some O):∃d a,L[W]?=some d/\O=⟨.int .i64 d.1,bp t a,d.2.1⟩:=by have i:W<L.length:=(by have:=(lK.1 h).1;rw[f.n] at this;exact this);obtain⟨a,_,g,_⟩:=f.e W L[W] (bA i);rw[h] at g;exact⟨L[W],a,bA i,dp g⟩
def eW.Tq (h:eW M w t b l c A L) {a:Nat} {e f:Int×Nat×t.den} (d:L[W]?=some e) (m:L[a]?=some f) (g:e.1=f.1):W=a:=by have n:=h.me.sQ;have k:W<(L.map (·.1)).length:=(by have:=(ec.1 d).1;simpa using this);apply(List.getElem?_inj k n (i:=W) (j:=a)).1;rw[gn,gn,d,m];simp[g]
def eW.Tp (h:eW M w t b l c A L) {d:Nat} {f a:Int×Nat×t.den} (e:L[W]?=some f) (m:L[d]?=some a) (g:f.2.1=a.2.1):W=d:=by have n:=h.me.2.2.1;have k:W<(L.map λa=>a.2.1).length:=(by have:=(ec.1 e).1;simpa using this);apply(List.getElem?_inj k n (i:=W) (j:=d)).1;rw[gn,gn,e,m];simp[g]
def Gl {c:Array a} {d e:a->a} (f:∀b,c[W]?=some b->d b=e b):c.modify W d=c.modify W e:=by
 apply Array.ext_getElem?;intro i;rw[tm,tm];split
 ·rename_i b;subst b;cases g:c[W]? with
  |none=>rfl
  |some h=>simp[f h g]
 rfl
def eW.entry (d:eW M w t b l c A L) {B z:TypeId} {R:IntKind} (n:P.underlying q=some (.map B z)) (g:P.underlying B=some (.int R)) (a:Int) {y:t.den} (O:H.length=t.size) (I:aG M w t H y []) (Q:∀w,(zeroValue z).run P w=.ok (bp t H) w):∃(f:Array MapEntry) (o:List (Int×Nat×t.den)) (v:cI) (p e:Nat),(Instr.mapEntry q (.map (some b)) (.int .i64 a)).run P w=.ok (.tuple #[bp t v,goInt ((p:Nat):Int)]) (et w b f (bif (dK l a).isSome then c else c+1))/\aG M w t v ((dK l a).getD y) []/\f[e]?=some (MapEntry.mk (.int .i64 a) (bp t v) p)/\(∀{C:bO->Nat->Prop},(∀J a,M J a->C J a/\a≠b)->eW C (et w b f (bif (dK l a).isSome then c else c+1)) t b (gh l a ((dK l a).getD y)) (bif (dK l a).isSome then c else c+1) f o)/\h0 w (et w b f (bif (dK l a).isSome then c else c+1)) b:=by
 rcases d.find (P:=P) g a with⟨x,N,s⟩|⟨e,p,T,r,x,N,s,u,D,E⟩
 ·obtain⟨f,o,aq,i,j⟩:=d.update (P:=P) n g a O I;rw[x] at aq i j|-;simp only[Option.isSome_none,cond_false,Option.getD_none] at aq i j|-;have k:(Instr.mapUpdate q (.map (some b)) (.int .i64 a) (bp t H)).run P w=.ok () (et w b (A.push ⟨.int .i64 a,bp t H,c⟩) (c+1)):=by
   simp only[Instr.mapUpdate,Sem.run_bind,run_underlying n,Result.andThen_ok,run_getObj_map d.h,lB g,s];exact nb d.h
  rw[aq] at k;simp only[Result.ok.injEq,true_and] at k;obtain⟨rfl,_⟩:=CI d.h k;refine⟨_,o,H,c,A.size,?_,I,by rw[Array.getElem?_push,al rfl],i,j⟩;simp only[Instr.mapEntry,Sem.run_bind,run_underlying n,Result.andThen_ok,run_getObj_map d.h,lB g,s,Q,nb d.h,Sem.run_pure];rfl
 obtain⟨f,o,aq,i,j⟩:=d.update (P:=P) n g a s D;rw[x] at aq i j|-;simp only[wq,cond_true,rP] at aq i j|-;have G:(Instr.keyThatStays (((A[e]?).map (·.key)).getD (.int .i64 a)) (.int .i64 a)).run P w=.ok (.int .i64 a) w:=(by rw[u];simp[Instr.keyThatStays,Instr.sameBits]);have k:(Instr.mapUpdate q (.map (some b)) (.int .i64 a) (bp t r)).run P w=.ok () (et w b (A.modify e λm=>{m with key:=.int .i64 a,val:=bp t r}) c):=(by simp only[Instr.mapUpdate,Sem.run_bind,run_underlying n,Result.andThen_ok,run_getObj_map d.h,lB g,E,G];exact nb d.h);rw[aq] at k;simp only[Result.ok.injEq,true_and] at k;obtain⟨rfl,_⟩:=CI d.h k;refine⟨_,o,r,p,e,?_,D,by rw[tm,al rfl,u];rfl,i,j⟩;have ai:(A.modify e λm=>{m with key:=.int .i64 a,val:=bp t r})=A.modify e λm=>{m with key:=.int .i64 a}:=Gl λm F=>(by rw[u] at F;cases F;rfl);have K:((A[e]?).map λS=>((S.born:Nat):Int)).getD 0=(p:Int):=(by rw[u];rfl);simp only[Instr.mapEntry,Sem.run_bind,run_underlying n,Result.andThen_ok,run_getObj_map d.h,lB g,E,G,nb d.h,Sem.run_pure,ai,K];rfl
def eW.LV (d:eW M w t b l c A L) {a:Int} (i:A[W]?=some O) (o:O.key=.int .i64 a) {y J:TypeId} {ap:IntKind} (C:P.underlying q=some (.map y J)) (n:P.underlying y=some (.int ap)) {I:t.den} (T:H.length=t.size) (an:aG M w t H I []):∃f k,(Instr.entryStore q (.map (some b)) (.int .i64 (O.born:Int)) (bp t H)).run P w=.ok () (et w b f (bif (dK l a).isSome then c else c+1))/\(∀{z:bO->Nat->Prop},(∀F a,M F a->z F a/\a≠b)->eW z (et w b f (bif (dK l a).isSome then c else c+1)) t b (gh l a I) (bif (dK l a).isSome then c else c+1) f k)/\h0 w (et w b f (bif (dK l a).isSome then c else c+1)) b:=by
 obtain⟨j,a4,p,D⟩:=d.D5 i;have E:j.1=a:=(by rw[D] at o;simpa using o);rcases d.find (P:=P) n a with⟨B,m,K⟩|⟨e,cv,dl,a3,B,m,K,N,bs,Q⟩
 ·exact absurd E (m j (j0 p))
 obtain rfl:e=W:=d.Tq m p (by simp[E]);obtain⟨f,k,aq,u,v⟩:=d.update (P:=P) C n a T an;rw[B] at aq u v|-;simp only[wq,cond_true] at aq u v|-;have Z:(Instr.keyThatStays (((A[e]?).map (·.key)).getD (.int .i64 a)) (.int .i64 a)).run P w=.ok (.int .i64 a) w:=(by rw[N];simp[Instr.keyThatStays,Instr.sameBits]);have x:(Instr.mapUpdate q (.map (some b)) (.int .i64 a) (bp t H)).run P w=.ok () (et w b (A.modify e λO=>{O with key:=.int .i64 a,val:=bp t H}) c):=(by simp only[Instr.mapUpdate,Sem.run_bind,run_underlying C,Result.andThen_ok,run_getObj_map d.h,lB n,Q,Z];exact nb d.h);rw[aq] at x;simp only[Result.ok.injEq,true_and] at x;obtain⟨rfl,_⟩:=CI d.h x;refine⟨_,k,?_,u,v⟩;have ai:(A.modify e λO=>{O with key:=.int .i64 a,val:=bp t H})=A.modify e λO=>{O with val:=bp t H}:=Gl λbl g=>(by rw[i] at g;cases g;rw[<-o]);have V:A.findIdx? (λav=>(av.born:Int)==(O.born:Int))=some e:=by
  rw[Array.findIdx?_eq_some_iff_getElem];have X:=(lK.1 i).1;refine⟨X,?_,λr cs ad=>?_⟩
  ·rw[(lK.1 i).2];simp
  have Y:r<A.size:=U;obtain⟨G,a0,am,g⟩:=d.D5 (tl Y);have co:(A[r].born:Int)=(O.born:Int):=(by simpa using ad);have S:G.2.1=j.2.1:=(by have ce:A[r].born=G.2.1:=(by rw[g]);have ci:O.born=j.2.1:=(by rw[D]);omega);have:=d.Tp am p S;omega
 have R:∀(s:Int) (w:World),(asInt (.int .i64 s)).run P w=.ok s w:=λs w=>(by simp[asInt,asIntOf]);simp only[Instr.entryStore,Sem.run_bind,Sem.run_pure,Result.andThen_ok,run_getObj_map d.h,R,V,nb d.h,ai];rfl
end
def n7 {f:Type} (tt:List (TypeId×af)) (j:List (Nat×az)) (i:Nat) (h:TypeId) (m a:ag) (g:bc->Option f):Option f:=
 match m with
 |.ref id c=>match ak j id with
  |some b=>match it tt h,a with
   |some l,.val (.int .i64) a=>match dn b.1 c with
    |some (
     .mp t)=>match jo t with
     |some e=>bif aT l t then
      (fl b.1 b.2 c (.mp t)).bind λd=>(n4 (α:=t.den) d a ((hB d a).getD e)).bind λk=>(jJ b.1 b.2 c (.mp t) k).bind λn=>
       g ⟨some (i,.dg [.val t ((hB (α:=t.den) d a).getD e),.ik id c a]),[id],[(id,c++[.deref])],[(id,⟨b.1,n⟩)]⟩
      else none
     |none=>none
    |_=>none
   |_,_=>none
  |none=>none
 |_=>none
def nT {b:Type} (tt:List (TypeId×af)) (e:List (Nat×az)) (d:TypeId) (k i j:ag) (c:bc->Option b):Option b:=
 match k,i with
 |.ref id a,.ik f h g=>bif Nat.beq f id&&jj h a then ly tt e d (.ref id a) (.val (.int .i64) g) j c else none
 |_,_=>none
def df.ip:∀{p:List aO} {τ:af} {e g:τ.den} {d:af} {f:d.den},df τ e p d f g->bN τ g p d f
 |[],τ,e,g,d,f,c=>by obtain⟨j,c⟩:=df.en.1 c;exact bN.en.2 ⟨j,c⟩
 |s::p,τ,e,g,d,f,c=>by
  cases τ<;>cases s<;>simp only[df] at c
  case osl.idx t i=>
   obtain⟨j,h,k,c,rfl⟩:=c;have l:i<e.length:=(ec.1 k).1;exact⟨h,by rw[jY l],df.ip (p:=p) c⟩
  case optr.deref t=>exact df.ip (p:=p) (τ:=t) c
  case st.unst t=>exact df.ip (p:=p) (τ:=t) c
  case pr.fst a b=>obtain⟨h,c,rfl⟩:=c;exact df.ip (p:=p) c
  case pr.snd a b=>obtain⟨h,c,rfl⟩:=c;exact df.ip (p:=p) c
def FG:∀a:List aO,eP (a++[.deref]) a=true
 |[]=>rfl
 |s::a=>by cases s<;>exact FG a
def NH (id:Nat) (a:List aO):dJ [id] [(id,a++[.deref])] (.ref id a)=.ref id a:=by
 have:iQ [(id,a++[.deref])] (.ref id a)=true:=by
  cases a with
  |nil=>simp[iQ]
  |cons b a=>
   have:=FG (b::a);simp only[iQ,List.any_cons,List.any_nil,Bool.or_false,oJ,Bool.true_and];exact this
 show di _ _ _=_;unfold di;rw[show hp [id] [(id,a++[.deref])] (.ref id a)=iQ [(id,a++[.deref])] (.ref id a) from rfl,this];simp
def Q1 {id:Nat} (a:aI D m=.ref id j):aI (kill [id] [(id,j++[.deref])] D) m=.ref id j:=by
 cases m with
 |tmp c=>
  have a:gt D c=.ref id j:=a;have b:=n0 [id] [(id,j++[aO.deref])] D c;rw[a] at b;exact b.trans (NH id j)
 |const d=>exact absurd a (by cases d<;>simp[aI])
 |global D=>cases a
 |func e=>cases a
section
variable {E:dz} {C:c8} {st:aB} {o:Oper} {Q:aB->Prop}
def Ox {a:Act} {e:Nat->Prop} (k:bi C i a.tmps v e z A) {id:Nat} (r:aI i.g m=.ref id j) (c:ak i.h id=some F) {t:af} {I:List (Int×t.den)} (x:bN F.1 F.2 j (.mp t) (some (I,l))) {b:Nat} (H:a.eval m=.map (some b)) {f:Array MapEntry} (D:v.heap[b]?=some (.map f l)) (y:f[W]?=some O) {n:Int} (u:O.key=.int .i64 n):bk (aY e C.B) v i.h z A (.ik id j n) (.int .i64 (O.born:Int)):=by
 have d:=k.aI (a:=a) m;rw[r,H] at d;generalize G:Value.map (some b)=S at d;cases d with|ref p o=>
 rename_i R T Q L;rw[c] at p;obtain rfl:=dp p;obtain⟨rfl,N,E,_,w⟩:=k.ip c x o;rcases E.BO with⟨O,_⟩|⟨q,P,K,M,J,_,rfl,rfl,_⟩
 ·cases O
 have s:b=q:=(by simpa[bp] using G);subst s;exact .ik c o (w b ab) (kM.2 D) y u
theorem Oy {V:a} {z:bc->Option a} {p:Operand} (cv:o.op=.mapEntry q p m) (a3:o.dst=some W) (a0:C.ok W) (d:n7 E.tt st.h W q (aI st.g p) (aI st.g m) z=some V):c5 E C o st (λy=>∃G,z G=some V/\y=G.app st):=by
 rintro j w ⟨r,gf,f6,s⟩ next f5 cs
 have v:=s.aI p;have e:=s.aI m;unfold n7 at d;split at d
 case h_2=>cases d
 rename_i id d5 I;split at d
 case h_2=>cases d
 rename_i Z Q;split at d
 case h_2=>cases d
 rename_i fs n ap am;obtain⟨f3,ad,ex,fn,fp⟩:=it.ok ap;split at d
 case h_2=>cases d
 rename_i t d0;split at d
 case h_2=>cases d
 rename_i ft d1;cases u:aT fs t with
 |false=>rw[u] at d;cases d
 |true=>
 rw[u] at d;simp only[cond_true] at d;obtain⟨d4,bs,f⟩:=bS.1 d;obtain⟨ge,k,i⟩:=bS.1 f;obtain⟨Y,T,J⟩:=bS.1 i;clear d f i;cases d4 with
 |none=>cases k
 |some d6=>
 obtain⟨l,c⟩:=d6;rw[I] at v;rw[am] at e;generalize S:j.eval p=go at v;generalize ci:j.eval m=gc at e;cases e with|val em=>
 obtain⟨_,rfl⟩:=em;cases v with|ref R O=>
 rw[Q] at R;cases R;obtain⟨b,A,L,rfl,f7,M,K,bl⟩:=s.yN Q O (gb bs);have:=O.ty;rw[d0] at this;cases this;obtain⟨f9,f2,fz,fT,f0,f1⟩:=ry (fp.lay u) d1;have d2:∀w,(zeroValue ad).run E.P w=.ok (bp t f2.cells.toList) w:=λw=>(by rw[<-f0];simp[zeroValue,typeInfo,fz,fT]);have U:=f1 (aY r C.B) w;obtain⟨H,f4,F,y,f8,aq,d7,d8,d9,el⟩:=K.entry (P:=E.P) ex fn n U.len U d2;have co:hB (α:=t.den) (some (l,c)) n=dK l n:=rfl;rw[co] at k J;simp only[n4,bH] at k;subst k;generalize(bif (dK l n).isSome then c else c+1)=D at*;generalize(dK l n).getD ft=X at*;obtain⟨eq,an,N⟩:=bl (d9 (λx m e=>⟨e,M x m e⟩)) el (km T);have ds:(execOp j.eval o).run E.P w=.ok (.value (.tuple #[bp t F,goInt ((y:Nat):Int)])) (et w b H D):=(by simp only[execOp,cv,S,ci,Sem.run_bind];have this:∀t:af,bp (.mp t) [Value.map (some b)]=.map (some b):=λ_=>rfl;rw[this,show bp (.int .i64) [Value.int .i64 n]=.int .i64 n from rfl,aq];rfl);unfold Oper.wp;rw[ds];show next (j.put o.dst _) _
 rw[a3];have ce:ak ((id,(⟨Z.1,Y⟩:az))::del [id] st.h) id=some ⟨Z.1,Y⟩:=(by rw[bG,al rfl]);have dl:aG (aY r C.B) (et w b H D) t F X []:=d7.mono (λx m e=>⟨e,zo (M x m e)⟩) ab;have a4:=Ox N (Q1 I) ce (df.ip (km T)) S (kX K.h) d8 (n:=n) rfl;refine cs _ _ _ ⟨_,J,?_⟩ rfl ⟨r,eq,an,N.put a0 (av:=.dg [.val t X,.ik id d5 n]) ?_⟩
 ·rfl
 refine .dg rfl (λd3 av gl f i=>?_)
 match d3 with
 |0=>simp at f i;subst f;subst i;exact .val dl
 |1=>simp at f i;subst f;subst i;exact a4
 |n+2=>simp at f
theorem L0 {N:a} {x:bc->Option a} {k j:Operand} (bl:o.op=.entryStore q k m j) (am:o.dst=none) (d:nT E.tt st.h q (aI st.g k) (aI st.g m) (aI st.g j) x=some N):c5 E C o st (λm=>∃y,x y=some N/\m=y.app st):=by
 rintro e w ⟨Q,f2,ft,i⟩ next fs a4
 have v:=i.aI k;have r:=i.aI m;have u:=i.aI j;unfold nT at d;split at d
 case h_2=>cases d
 rename_i id d4 ds d5 d3 V T;cases f:(Nat.beq ds id&&jj d5 d4) with
 |false=>rw[f] at d;cases d
 |true=>
 rw[f] at d;rw[a5] at f;obtain rfl:=dW f.1;obtain rfl:=jj.ok f.2;simp only[cond_true] at d;unfold ly at d;simp only at d;split at d
 case h_2=>cases d
 rename_i ge s;split at d
 case h_2=>cases d
 rename_i eq f1 gc f8 ad B U;simp only[ag.val.injEq,heq_eq_eq,true_and] at B;subst B;obtain⟨ex,fp,el,em,f4⟩:=it.ok ad;split at d
 case h_2=>cases d
 rename_i t ci;cases H:aT eq t with
 |false=>rw[H] at d;cases d
 |true=>
 rw[H] at d;simp only[cond_true] at d;split at d
 case h_2=>cases d
 rename_i f7 cv;obtain⟨d2,ap,D⟩:=bS.1 d;obtain⟨f0,n,F⟩:=bS.1 D;obtain⟨f9,dl,X⟩:=bS.1 F;clear d D F;cases d2 with
 |none=>cases n
 |some d6=>
 obtain⟨l,c⟩:=d6;cases hM cv;rw[V] at v;rw[T] at r;rw[U] at u;generalize cs:e.eval k=f6 at v;generalize ce:e.eval m=f3 at r;generalize co:e.eval j=f5 at u;cases u with|val O=>
 cases r with|ik M a3 fz J av a0=>
 rw[s] at M;cases M;cases v with|ref K p=>
 rw[s] at K;cases K;obtain⟨b,A,L,rfl,fT,Y,G,an⟩:=i.yN s p (gb ap);have:=p.ty;rw[ci] at this;cases this;obtain⟨ai,_,z⟩:=p.hn a3;simp only[fd,Value.map.injEq,bH,and_true] at z;subst z;rw[kM.2 G.h] at J;cases J;obtain⟨S,fn,aq,d7,d8⟩:=G.LV (P:=E.P) av a0 el em O.len O;simp only[n4,bH] at n;subst n;generalize(bif (dK l d3).isSome then c else c+1)=R at*;obtain⟨d9,W,Z⟩:=an (d7 (λd1 d0 I=>⟨I,Y d1 d0 I⟩)) d8 (km dl);unfold Oper.wp;have bs:(execOp e.eval o).run E.P w=.ok .skip (et w b S R):=(by have this:∀t:af,bp (.mp t) [Value.map (some b)]=.map (some b):=λ_=>rfl;simp only[execOp,bl,cs,ce,co,Sem.run_bind];rw[this,aq];rfl);rw[bs];show next (e.put o.dst undef) _
 rw[am];refine a4 _ _ _ ⟨_,X,?_⟩ rfl ⟨Q,d9,W,Z⟩;rfl
end
end
section
structure Kb where
 c:Code
 n:Nat
 pin:Option cO
 ds:cO
 α:Type
 f:aB->Option α
 g:aB->α->aB
structure eU where
 tt:List (TypeId×af)
 zv:List (Nat×g5)
 an:List (Nat×af)
 n:Nat
 pin:cO
 kg:List (Nat×ag)
 nY:cQ
 SD:Option cl
 aS:cH
 Wf:List Kb
 jC:List ql
def Db (b:Program) (c:TypeId):Prop:=∃a e d,b.info? c=some a/\a.size=1/\a.zero=some e/\e.cells.size=1/\b.underlying c=some d/\(match d with|.struct _|.array _ _=>true|_=>false)=false
def u2:List eX->List ag->Bool
 |.c d _::a,.bZ b _::as=>Nat.beq b d&&u2 a as
 |.c _ _::_,_=>false
 |_::a,_::as=>u2 a as
 |_,_=>true
def px:List (Nat×g5)->Nat->List ag->Option g5
 |[],_,_=>none
 |(k,F)::l,f,as=>bif Nat.beq k f&&(u2 F.ps as&&(g3 0 F.ps).isNone) then some F else px l f as
theorem BA:∀{e:List (Nat×g5)} {c:Nat} {as:List ag} {b:g5},px e c as=some b->∃d,(d,b)∈e
 |[],_,_,_,a=>by cases a
 |(d,G)::e,c,as,b,a=>by
  simp only[px] at a;cases f:(Nat.beq d c&&(u2 G.ps as&&(g3 0 G.ps).isNone)) with
  |true=>grind
  |false=>
   rw[f] at a;obtain⟨h,g⟩:=BA a;grind
theorem BB:∀{d:List (Nat×g5)} {c:Nat} {as:List ag} {b:g5},px d c as=some b->g3 0 b.ps=none
 |[],_,_,_,a=>by cases a
 |(k,G)::d,c,as,b,a=>by
  simp only[px] at a;cases e:(Nat.beq k c&&(u2 G.ps as&&(g3 0 G.ps).isNone)) with
  |true=>
   simp_all
  |false=>
   rw[e] at a;exact BB a
def qI (ic:eU) (a:kx) (b:a.den):aB:=⟨ic.kg++lr a.g b,qH a.h (qJ a.g b)⟩
def e0 (b:Nat) (c:cO) (a:Nat):Bool:=Nat.blt a b&&!(bV a c)
def ai (ic:eU) {A:Type} (a:Operand->ag) (g:List (Nat×az)) (r:Oper) (c:bc->Option A):Option A:=
 match r.dst with
 |none=>match r.op with
  |.store d e v=>oq ic.tt g d (a e) (a v) c
  |.mapUpdate d e o v=>ly ic.tt g d (a e) (a o) (a v) c
  |.insert d e o v=>ly ic.tt g d (a e) (a o) (a v) c
  |.entryStore d e F v=>nT ic.tt g d (a e) (a F) (a v) c
  |.call {callee:=.builtin .delete,args:=xs,argTypes:=s}=>match xs.toList,s.toList with
   |[e,o],[d,_]=>n6 ic.tt g d (a e) (a o) c
   |_,_=>none
  |_=>none
 |some b=>
  bif e0 ic.n ic.pin b then
  match r.op with
  |.pick y e i=>match a y with
   |.val .bool j=>(match a e,a i with
    |.val k u,.val H v=>match fy (τ:=H) k v with
     |some v=>c ⟨some (b,.val k (bif j then u else v)),[],[],[]⟩
     |none=>none
    |u,v=>match j with
     |true=>c ⟨some (b,u),[],[],[]⟩
     |false=>c ⟨some (b,v),[],[],[]⟩)
   |_=>none
  |.call {callee:=.value z,args:=xs,argTypes:=_}=>match a z with
   |.bZ l m=>
    match px ic.zv l (xs.toList.map a++m) with
    |none=>none
    |some h=>bif Nat.beq h.f l then
     hz g (ot (xs.toList.map a++m) h.ps) h.ps (xs.toList.map a++m) λq=>(h.s6 q).bind λj=>bif kE b ⟨[],g⟩ (xs.toList.map a++m) (ej h.ps q j) (gy h.rs (fK h.ps j)) then
      c ⟨some (b,rh b (gy h.rs (fK h.ps j))),dZ (xs.toList.map a++m) (ej h.ps q j),sC (jG (xs.toList.map a++m) (ej h.ps q j)),hq (xs.toList.map a++m) (ej h.ps q j)++gz b (gd (gy h.rs (fK h.ps j))) 0 (gy h.rs (fK h.ps j))⟩ else none
     else none
   |_=>none
  |.call {callee:=.builtin .append,args:=xs,argTypes:=s}=>match xs.toList,s.toList with
   |[e,i],[d,x]=>bif Nat.beq d x then li ic.tt ic.an g b d (a e) (a i) c else none
   |_,_=>none
  |.call {callee:=.builtin .copy,args:=xs,argTypes:=s}=>match xs.toList,s.toList with
   |[e,i],[d,_]=>nJ ic.tt g b d (a e) (a i) c
   |_,_=>none
  |.assign e=>match a e with
   |.val k i=>c ⟨some (b,.val k i),[],[],[]⟩
   |.bZ l m=>c ⟨some (b,.bZ l m),[],[],[]⟩
   |.addr id E=>c ⟨some (b,.addr id E),[],[],[]⟩
   |.bD v=>match ak ic.an b with
    |none=>c ⟨some (b,.bD v),[],[],[]⟩
    |some k=>match k.pure&&mS k v with
     |true=>(gr k v.cells.toList).bind λi=>c ⟨some (b,.val k i),[],[],[]⟩
     |false=>(mO ic.an g b (.bD v)).bind c
   |v=>(mO ic.an g b v).bind c
  |.build d w=>oV ic.tt ic.an g a b d w.toList c
  |.mapEntry d e o=>n7 ic.tt g b d (a e) (a o) c
  |.box d e=>qr ic.tt ic.an g b d (a e) c
  |.buildSlice d C w=>oX ic.tt ic.an g a b d C w.toList c
  |_=>match hO ic.tt ic.an g a b r.op with
   |.dc t=>c ⟨some (b,t),[],[],[]⟩
   |.opt _ i l=>i.bind λp=>c ⟨some (b,l p),[],[],[]⟩
   |.new _ i G B=>bif Nat.beq B b then i.bind λp=>c ⟨some (b,.ref b []),[],[],[(b,G p)]⟩ else none
   |.no=>match eE ic.tt ic.an g a b r.op with
    |.dc t D=>c ⟨some (b,t),[],[],D⟩
    |.part _ I l=>(pick I).bind λp=>c ⟨some (b,(l p).1),[],[],(l p).2⟩
    |.bad=>none
  else none
def kF (b:List (Nat×az)) (a:cO):Bool:=a.all λid=>match ak b id with|some c=>Ba c.1|none=>false
def hy (ic:eU) {A:Type} (e:Operand->ag) (b:List (Nat×az)) (c:Oper) (f:bc->Option A):Option A:=
 match jB ic.nY (qQ c) e (ox c.op) with
 |[]=>ai ic e b c f
 |F=>bif kF b F then ai ic (λh=>ga b F (e h)) (del F b) c λa=>bif a.keep.all (λg=>!bV g.1 F) then f ⟨a.d,F++a.S,a.keep,a.put⟩ else none else none
def lv:eX->Bool
 |.m _=>true
 |_=>false
def CQ (ic:eU) (a:Operand->ag) (e:Oper):Option (Nat×List aO):=match e.op with
 |.call {callee:=.value z,args:=xs,argTypes:=_}=>match a z with
  |.bZ d b=>match px ic.zv d (xs.toList.map a++b) with
   |some c=>pR (xs.toList.map a++b) (c.ps.map lv)
   |none=>none
  |_=>none
 |_=>none
def AI (ic:eU) {A:Type} (id:Nat) (k:aO) (j:List aO) (c:Operand->ag) (l:List (Nat×az)) (p:Oper) (r:bc->Option A):Option A:=
 match p.dst with
 |none=>none
 |some g=>
  bif e0 ic.n ic.pin g then
  match p.op with
  |.call {callee:=.value m,args:=xs,argTypes:=_}=>match c m with
   |.bZ o d=>
    match px ic.zv o (xs.toList.map c++d) with
    |none=>none
    |some a=>
     bif Nat.beq a.f o then
     match ak l id with
     |none=>none
     |some h=>match dn h.1 (k::j) with
      |none=>none
      |some i=>match fl h.1 h.2 (k::j) i with
       |none=>none
       |some q=>
        match dF ((id,⟨i,q⟩)::del [id] l) (ot (jK id (xs.toList.map c++d) (a.ps.map lv)) a.ps) a.ps (jK id (xs.toList.map c++d) (a.ps.map lv)) with
        |none=>none
        |some e=>(a.s6 e).bind λb=>bif kE g ⟨[],(id,⟨i,q⟩)::del [id] l⟩ (jK id (xs.toList.map c++d) (a.ps.map lv)) (ej a.ps e b) (gy a.rs (fK a.ps b))&&(bV id (dZ (jK id (xs.toList.map c++d) (a.ps.map lv)) (ej a.ps e b))&&bV id (jG (jK id (xs.toList.map c++d) (a.ps.map lv)) (ej a.ps e b))) then
         match ak (hq (jK id (xs.toList.map c++d) (a.ps.map lv)) (ej a.ps e b)++gz g (gd (gy a.rs (fK a.ps b))) 0 (gy a.rs (fK a.ps b))) id with
         |none=>none
         |some s=>match fy i s.2 with
          |none=>none
          |some t=>(jJ h.1 h.2 (k::j) i t).bind λm=>
           r ⟨some (g,rh g (gy a.rs (fK a.ps b))),dZ (jK id (xs.toList.map c++d) (a.ps.map lv)) (ej a.ps e b),(id,k::j)::sC (jG (jK id (xs.toList.map c++d) (a.ps.map lv)) (ej a.ps e b)),(id,⟨h.1,m⟩)::(hq (jK id (xs.toList.map c++d) (a.ps.map lv)) (ej a.ps e b)++gz g (gd (gy a.rs (fK a.ps b))) 0 (gy a.rs (fK a.ps b)))⟩
         else none
     else none
   |_=>none
  |_=>none
  else none
def BU (ic:eU) (b:Operand->ag) (c:Oper):Option cy:=match c.dst,c.op with
 |some a,.binOp .eql d e g _=>match eA ic.tt d,b e,b g with
  |some _,.val (.aV _ h) f,.bD (.slice none 0 0)=>bif e0 ic.n ic.pin a then some (a,List.length (α:=h.den) f) else none
  |_,_,_=>none
 |_,_=>none
def FF (tt:List (TypeId×af)) (a:TypeId):Bool:=match ak tt a with|some (.ptr _ _)=>true|_=>false
def BT (b:List (Nat×az)):ag->Option Bool
 |.val (.ptr _ a) d=>some (Option.isNone (α:=a.den) d)
 |.ref id c=>match ak b id with
  |some a=>match dn a.1 c with
   |some (.optr _)=>some false
   |_=>none
  |none=>none
 |_=>none
def Co (ic:eU) (c:Operand->ag) (f:List (Nat×az)) (d:Oper):Option (Nat×Bool):=match d.dst,d.op with
 |some a,.binOp g e h i _=>match FF ic.tt e,BT f (c h),c i with
  |true,some b,.bD (.pointer none)=>bif e0 ic.n ic.pin a then(match g with
   |.eql=>some (a,b)
   |.neq=>some (a,!b)
   |_=>none) else none
  |_,_,_=>none
 |_,_=>none
def CT (ic:eU) (f:Operand->ag) (d:Oper):Option (Nat×ql×Int):=match d.dst,d.op with
 |some c,.indexAddr e (.global h) g=>match ic.jC.find? (λa=>Nat.beq a.b h&&Nat.beq a.T e),f g with
  |some a,.val (.int _) i=>bif e0 ic.n ic.pin c then some (c,a,i) else none
  |_,_=>none
 |_,_=>none
def i1 (ic:eU) {A:Type} (a:aB) (d:Oper) (b:aB->Option A):Option A:=
 match CT ic (aI a.g) d with
 |some (c,i,f)=>(aL i.xs f).bind λn=>b ⟨(c,.val (.ptr .bn (.int i.k)) (some n))::a.g,a.h⟩
 |none=>match Co ic (aI a.g) a.h d with
 |some (c,j)=>b ⟨(c,.val .bool j)::a.g,a.h⟩
 |none=>match BU ic (aI a.g) d with
 |some (c,f)=>lz f (b ⟨(c,.val .bool true)::a.g,a.h⟩) (b ⟨(c,.val .bool false)::a.g,a.h⟩)
 |none=>match CQ ic (aI a.g) d with
  |some (id,m::l)=>AI ic id m l (aI a.g) a.h d λe=>b (e.app a)
  |_=>hy ic (aI a.g) a.h d λe=>b (e.app a)
def iq (ic:eU) {A:Type} (c:Array Oper):cO->aB->(aB->Option A)->Option A
 |[],a,b=>b a
 |i::e,a,b=>match c[i]? with
  |none=>none
  |some f=>match f.guard with
   |none=>i1 ic a f λk=>iq ic c e k b
   |some (
    l,pZ)=>match(c[l]?).bind (·.dst),f.dst with
    |some j,some d=>match gt a.g j with
     |.val .bool m=>bif e0 ic.n ic.pin d then
      (match m==pZ with
      |true=>i1 ic ⟨(j,.val .bool pZ)::a.g,a.h⟩ f λk=>iq ic c e k b
      |false=>iq ic c e ⟨(d,.bD undef)::(j,.val .bool (!pZ))::a.g,a.h⟩ b) else none
     |.bD (.tuple _)=>bif e0 ic.n ic.pin d then iq ic c e ⟨(d,.bD undef)::a.g,a.h⟩ b else none
     |_=>none
    |_,_=>none
section
variable {E:dz} {C:c8} {ic:eU} {A:Type}
def eU.ac (E:dz) (C:c8) (ic:eU):Prop:=ic.tt=E.tt/\ic.n=C.n/\ic.pin=C.pin/\((∀b∈ic.zv,aE E b.2)/\qj C ic.SD/\(∀a∈ic.aS,Db E.P a)/\iA E C.I0 C.w0/\ic.jC=E.glob)/\mD C ic.kg
theorem e0.ok (b:ic.ac E C) {d:Nat} (a:e0 ic.n ic.pin d=true):C.ok d:=by obtain⟨_,c,e,_,_⟩:=b;rw[c,e] at a;simp only[e0,a5] at a;exact⟨eo a.1,λf=>by grind [eQ]⟩
def ez.same {d:cG} (k:∀b,gt X.g b=gt i.g b) (c:X.h=i.h) (j:ez C i d v):ez C X d v:=by obtain⟨e,l,f,a⟩:=j;exact⟨e,l,f,{a with tree:=by rw[c];exact a.tree,dis:=by rw[c];exact a.dis,tmp:=λb=>by rw[c,k];exact a.tmp b}⟩
def fQ.same {f:Array Oper} {e:cO} {a b:aB} {c:aB->Prop} (l:∀d,gt b.g d=gt a.g d) (m:b.h=a.h) (j:fQ E C f e b c):fQ E C f e a c:=
 λi n k=>j i n (k.same l m)
def bc.DP:(bc.mk (some (b,d)) y f e).app i=⟨(b,d)::kill y f i.g,e++del y i.h⟩:=by show aB.mk ((b,d)::kL y f i.g) (e++nS y i.h)=_;rw[pq,so]
theorem EK (L:ic.ac E C) {l:Oper} {st:aB} {o:bc->Option A} {s:A} (a:ai ic (aI st.g) st.h l o=some s):c5 E C l st (λv=>∃c,o c=some s/\v=c.app st):=by
 obtain⟨B,d8,d9,dl,_⟩:=id L;unfold ai at a;split at a
 ·rename_i i;split at a
  ·grind [SX,SW]
  ·grind [Gt]
  ·rename_i p b W Y e;rw[B] at a;exact Gt (.inr e) i a
  ·grind [L0]
  ·rename_i x H e;split at a
   case h_2=>cases a
   rename_i b W p am ai S;rw[B] at a;obtain rfl:x=#[b,W]:=(by grind);obtain rfl:H=#[p,am]:=(by grind);grind [Om]
  grind
 rename_i z i;cases U:e0 ic.n ic.pin z with
 |false=>grind
 |true=>
 rw[U] at a;have j:=e0.ok L U;simp only[cond_true] at a;split at a
 ·rename_i d5 b m e;split at a
  case h_2=>cases a
  rename_i q K;have d6:∀y,(q=true->y=aI st.g b)->(q=false->y=aI st.g m)->o ⟨some (z,y),[],[],[]⟩=some s->c5 E C l st (λv=>∃c,o c=some s/\v=c.app st):=by
   clear a;intro y a4 bl u;refine c5.eval (an:=ic.an) i j ?_;rw[e];simp only[eE,za,K];refine⟨q,rfl,_,u,?_⟩;cases q
   ·rw[bl rfl];rfl
   rw[a4 rfl];rfl
  split at a
  ·rename_i d4 fp ft Y el V;split at a
   case h_2=>cases a
   rename_i d3 ds;cases hM ds;grind
  grind
 ·rename_i fs x _ e;split at a
  case h_2=>cases a
  rename_i J X d1;split at a
  ·cases a
  rename_i I bs;cases r:Nat.beq I.f J with
  |false=>grind
  |true=>
  rw[r] at a;obtain rfl:=dW r;simp only[cond_true,kJ] at a;obtain⟨d,d7,a⟩:=bS.1 a;obtain⟨q,cv,a⟩:=bS.1 a;cases K:kE z ⟨[],st.h⟩ (x.toList.map (aI st.g)++X) (ej I.ps d q) (gy I.rs (fK I.ps q)) with
  |false=>grind
  |true=>
  rw[K] at a;obtain⟨em,cs⟩:=BA bs;obtain⟨ci,co⟩:=dl.1 _ cs;refine c5.call e d1 i j ci (co d q cv) (by grind [BB,vQ]) L.2.2.2.2.1 L.2.2.2.1.2.2.2.1 ?_ K ⟨_,a,?_⟩
  ·grind [mW,CU]
  rw[bc.DP];rfl
 ·rename_i x H e;split at a
  case h_2=>cases a
  rename_i b m p N ai S;cases r:Nat.beq p N with
  |false=>grind
  |true=>
  rw[r] at a;obtain rfl:=dW r;have av:x=#[b,m]:=(by grind);have a0:H=#[p,p]:=(by grind);grind [Ks]
 ·rename_i x H e;split at a
  case h_2=>cases a
  rename_i b m p N ai S;have av:x=#[b,m]:=(by grind);have a0:H=#[p,N]:=(by grind);grind [c5.copy]
 ·rename_i b e;have O:Bn (aI st.g b)=true->o ⟨some (z,aI st.g b),[],[],[]⟩=some s->c5 E C l st (λv=>∃c,o c=some s/\v=c.app st):=λV u=>by
   refine c5.eval (an:=ic.an) i j ?_;rw[e];simp only[eE,V,cond_true];exact⟨_,u,rfl⟩
  have as:(mO ic.an st.h z (aI st.g b)).bind o=some s->c5 E C l st (λv=>∃c,o c=some s/\v=c.app st):=λu=>(by obtain⟨c,ce,u⟩:=bS.1 u;exact c5.Ky e i j (Kz ce ⟨c,u,rfl⟩));split at a
  ·rename_i d4 m t;exact O (by rw[t];rfl) (by grind)
  ·rename_i J X t;exact O (by rw[t];rfl) (by grind)
  ·rename_i id ex t;rintro d w ⟨ad,d2,a3,D⟩ next ap Q
   have M:=D.aI b;have R:(execOp d.eval l).run E.P w=.ok (.value (d.eval b)) w:=(by simp[execOp,e]);unfold Oper.wp;rw[R];show next (d.put l.dst (d.eval b)) w
   rw[i];refine Q _ _ _ ⟨_,a,rfl⟩ rfl ⟨_,_,_,D.put j ?_⟩;grind
  ·rename_i Y t;split at a
   ·exact O (by rw[t];rfl) (by grind)
   split at a
   ·rename_i T;simp only[a5] at T;obtain⟨m,d0,a⟩:=bS.1 a;rintro d w ⟨ad,d2,a3,D⟩ next ap Q
    have M:=D.aI b;have R:(execOp d.eval l).run E.P w=.ok (.value (d.eval b)) w:=(by simp[execOp,e]);unfold Oper.wp;rw[R];show next (d.put l.dst (d.eval b)) w
    rw[i];refine Q _ _ _ ⟨_,a,rfl⟩ rfl ⟨_,_,_,D.put j ?_⟩;rw[t] at M;generalize d.eval b=d3 at M;cases M;rw[<-mS.ok T.2];exact .val (mR d0)
   grind
  grind
 ·grind [KJ]
 ·grind [Oy]
 ·grind [KM]
 ·grind [KQ]
 split at a
 ·rename_i y k;refine c5.eval (an:=ic.an) i j ?_;rw[<-B];exact AO (by rw[k];exact⟨_,a,rfl⟩)
 ·rename_i Z m J k;refine c5.eval (an:=ic.an) i j ?_;rw[<-B];obtain⟨G,F,a⟩:=bS.1 a;exact AO (by rw[k];exact⟨G,F,_,a,rfl⟩)
 ·rename_i Z m fn c k;cases r:Nat.beq c z with
  |false=>grind
  |true=>
  rw[r] at a;obtain rfl:=dW r;obtain⟨G,F,a⟩:=bS.1 a;refine c5.eval (an:=ic.an) i j ?_;rw[<-B];exact AO (by rw[k];exact⟨G,F,_,a,rfl⟩)
 refine c5.eval (an:=ic.an) i j ?_;rw[B] at a;split at a
 ·rename_i y eq k;rw[k];exact⟨_,a,rfl⟩
 ·rename_i Z fz J k;rw[k];obtain⟨G,F,a⟩:=bS.1 a;exact⟨G,Rj F,_,a,rfl⟩
 grind
def c5.mono {P:aB->Prop} (e:c5 E C h i P) (j:∀a,P a->u a):c5 E C h i u:=
 λc l f next b g=>e c l f next b (λa d m k=>g a d m (j a k))
theorem R2 (b:iQ f d=true):∃id,d.ids=[id]/\∃a∈f,a.1=id:=by
 have e:∀(id:Nat) (g:Nat×List aO->Bool),(f.any λa=>Nat.beq a.1 id&&g a)=true->∃a∈f,a.1=id:=(by intro id g k;obtain⟨a,h,i⟩:=mE.1 k;simp only[a5] at i;grind [Nat.eq_of_beq_eq_true]);cases d with
 |ref id c=>
  cases c with
  |nil=>
   obtain⟨a,h,j⟩:=mE.1 (show(f.any λa=>Nat.beq a.1 id)=true from b);exact⟨id,rfl,a,h,dW j⟩
  |cons n c=>exact⟨id,rfl,e id _ b⟩
 |addr id c=>exact⟨id,rfl,e id _ b⟩
 |view id c m l=>exact⟨id,rfl,e id _ b⟩
 |_=>cases b
theorem zA:d.dB (g++y)=(d.dB g||d.dB y):=by simp only[ag.dB];rw[np];simp only[mE,gE];grind [eQ,List.mem_append_left,List.mem_append_right]
theorem Ep:(ag.bZ b L).dB g=L.any λa=>a.dB g:=by
 show(ag.lu L).any _=_
 induction L with
 |nil=>rfl
 |cons a L c=>grind [ag.lu,ag.dB]
theorem Ia (b:d.dB y=false):hp (y++g) f d=hp g f d:=by
 cases d with
 |bZ m p=>
  rw[Ep,rH] at b;rw[np];simp only[hp,ew];constructor<;>intro i e h<;>have:=i e h<;>rw[zA,Bool.eq_false_iff.2 (b e h)] at*<;>simpa using this
 |app id q s r c=>
  have j:=C0 b;have o:∀a∈c,bV a (y++g)=bV a g:=λa k=>(by have n:a∉y:=j a (eJ _ k);rw[np,eQ,eQ,eI];grind);have l:(c.all λa=>!(bV a (y++g)))=c.all λa=>!(bV a g):=(by grind);grind [hp]
 |_=>rfl
theorem NB {F S:cO} {keep:List (Nat×List aO)} {a:ag}:di (F++S) keep a=.dead\/(a.dB F=false/\di (F++S) keep a=di S keep a)\/(hp (F++S) keep a=true/\di (F++S) keep a=a):=by grind [Ia,zA,hp,di]
theorem kF.ok (b:kF e g=true):∀id∈g,∃a,ak e id=some a/\Ba a.1=true:=by intro id c;have:=ew.1 b id c;grind
theorem EM (a3:ic.ac E C) {K:Oper} {N:bc->Option A} {W:A} (e:hy ic (aI i.g) i.h K N=some W):c5 E C K i (λX=>∃b,N b=some W/\X=b.app i):=by
 unfold hy at e;split at e
 ·grind [EK]
 generalize jB ic.nY (qQ K) (aI i.g) (ox K.op)=c at e;cases R:kF i.h c with
 |false=>grind
 |true=>
 rw[R] at e;simp only[cond_true] at e;rw[<-MR c i] at e;have o:=EK (st:=pi c i) a3 e;intro j co M next Y bl
 obtain⟨cv,d5,dl,M⟩:=M;refine o j co (M.freeze (kF.ok R)) next Y (λd6 Z cs ce av am=>?_)
 obtain⟨b,T,rfl⟩:=ce;cases U:b.keep.all (λk=>!bV k.1 c) with
 |false=>grind
 |true=>
 rw[U] at T;have U:∀k∈b.keep,k.1∉c:=λk q a4=>(by grind [eQ,List.all_eq_true]);refine bl _ Z cs ⟨_,T,rfl⟩ av (am.FU ?_ ?_)
 ·intro x;have t:∀j:ag,di (c++b.S) b.keep j=.dead\/di (c++b.S) b.keep j=di b.S b.keep (eK i.h c j):=by
   intro j;rcases NB (F:=c) (S:=b.S) (keep:=b.keep) (a:=j) with e|⟨o,w⟩|⟨o,w⟩
   ·grind
   ·right;rw[w];rcases ka i.h c j with⟨id,p,rfl,ci,_⟩|⟨_,n⟩|⟨n,_⟩
    ·grind [eQ,ag.dB,ag.ids]
    ·grind
    grind
   have bs:∀(id:Nat),(∃l∈b.keep,l.1=id)->bV id c=false:=λid ⟨l,I,b⟩=>(by grind);have G:hp (c++b.S) b.keep j=hp b.S b.keep j->∀(id:Nat),j.ids=[id]->(∃l∈b.keep,l.1=id)->di (c++b.S) b.keep j=.dead\/di (c++b.S) b.keep j=di b.S b.keep (eK i.h c j):=by
    intro d0 id d2 I;have V:j.dB c=false:=(by grind [ag.dB]);right;rcases ka i.h c j with⟨k,p,rfl,ci,_⟩|⟨_,n⟩|⟨n,_⟩
    ·grind [eQ,ag.dB,ag.ids]
    ·grind
    grind [di,hp]
   have H:∀(id:Nat) (O:Nat×List aO->Bool),(b.keep.any λl=>Nat.beq l.1 id&&O l)=true->∃l∈b.keep,l.1=id:=(by intro id O a0;obtain⟨l,I,w⟩:=mE.1 a0;simp only[a5] at w;grind [Nat.eq_of_beq_eq_true]);cases j with
   |ref id f=>
    cases f with
    |nil=>
     obtain⟨l,I,L⟩:=mE.1 (show(b.keep.any λl=>Nat.beq l.1 id)=true from o);exact G rfl id rfl ⟨l,I,dW L⟩
    |cons X f=>exact G rfl id rfl (H id _ o)
   |addr id f=>exact G rfl id rfl (H id _ o)
   |view id f y q=>exact G rfl id rfl (H id _ o)
   |bZ s m=>
    have an:=ew.1 o;have V:(ag.bZ s m).dB c=false:=(by rw[Ep,rH];grind [R2,zA,id,ag.dB,ai]);right;rcases ka i.h c (.bZ s m) with⟨k,p,aq,_⟩|⟨_,n⟩|⟨n,_⟩
    ·cases aq
    ·grind
    rw[n,w];unfold di;have ds:hp b.S b.keep (.bZ s m)=true:=ew.2 λad ap=>(by have L:=an ad ap;rw[zA,Bool.not_or,gE,a5] at L;grind);grind
   |app id f u v r=>
    have Q:((r.all λk=>!(bV k (c++b.S)))&&b.keep.any λl=>Nat.beq l.1 id&&ig l.2 f)=true:=o;rw[a5] at Q;have d1:=bs id (H id _ Q.2);have V:(ag.app id f u v r).dB c=false:=by
     unfold ag.dB;rw[rH];intro k q a4;rcases dk.1 (show k∈id::r from q) with rfl|q
     ·grind
     grind [List.all_eq_true,eQ,List.mem_append_left]
    right;rcases ka i.h c (.app id f u v r) with⟨k,p,aq,_⟩|⟨_,n⟩|⟨n,_⟩
    ·cases aq
    ·grind
    grind [Ia,di]
   |_=>cases o
  have d3:∀j:ag,ti (dJ (c++b.S) b.keep j) (dJ b.S b.keep (ga i.h c j)):=by
   intro j;cases j with
   |dg m=>
    refine .inr (.inr ⟨_,_,rfl,rfl,ab,λk l d8 o w=>?_⟩);grind
   |ref id f=>
    have n:=t (.ref id f);have ai:dJ b.S b.keep (ga i.h c (.ref id f))=di b.S b.keep (eK i.h c (.ref id f)):=by show dJ b.S b.keep (eK i.h c (.ref id f))=_;rcases ka i.h c (.ref id f) with⟨k,p,_,_,_,e⟩|⟨e,_⟩|⟨e,_⟩<;>rw[e]<;>first|rfl|grind [MS]
    rw[ai];exact n.imp (λe=>e) .inl
   |dead=>exact(t .dead).imp (λe=>e) .inl
   |val u l=>exact .inr (.inl (by
    simp[di,eK,ga,dJ,ag.dB,ag.ids]))
   |bD d7=>exact .inr (.inl (by
    simp[di,eK,ga,dJ,ag.dB,ag.ids]))
   |addr id f=>
    have ai:dJ b.S b.keep (ga i.h c (.addr id f))=di b.S b.keep (eK i.h c (.addr id f)):=by show dJ b.S b.keep (eK i.h c (.addr id f))=_;rcases ka i.h c (.addr id f) with⟨k,p,_,_,_,e⟩|⟨e,_⟩|⟨e,_⟩<;>rw[e]<;>first|rfl|grind
    rw[ai];exact(t _).imp (λe=>e) .inl
   |view id f y q=>
    have ai:dJ b.S b.keep (ga i.h c (.view id f y q))=di b.S b.keep (eK i.h c (.view id f y q)):=by show dJ b.S b.keep (eK i.h c (.view id f y q))=_;rcases ka i.h c (.view id f y q) with⟨k,p,_,_,_,e⟩|⟨e,_⟩|⟨e,_⟩<;>rw[e]<;>first|rfl|grind
    rw[ai];exact(t _).imp (λe=>e) .inl
   |ik id f J=>
    have ai:dJ b.S b.keep (ga i.h c (.ik id f J))=di b.S b.keep (eK i.h c (.ik id f J)):=by show dJ b.S b.keep (eK i.h c (.ik id f J))=_;rcases ka i.h c (.ik id f J) with⟨k,p,_,_,_,e⟩|⟨e,_⟩|⟨e,_⟩<;>rw[e]<;>first|rfl|grind
    rw[ai];exact(t _).imp (λe=>e) .inl
   |app id f u v r=>
    have ai:dJ b.S b.keep (ga i.h c (.app id f u v r))=di b.S b.keep (eK i.h c (.app id f u v r)):=by show dJ b.S b.keep (eK i.h c (.app id f u v r))=_;rcases ka i.h c (.app id f u v r) with⟨k,p,_,_,_,e⟩|⟨e,_⟩|⟨e,_⟩<;>rw[e]<;>first|rfl|grind
    rw[ai];exact(t _).imp (λe=>e) .inl
   |agg m=>
    have ai:dJ b.S b.keep (ga i.h c (.agg m))=di b.S b.keep (eK i.h c (.agg m)):=by show dJ b.S b.keep (eK i.h c (.agg m))=_;rcases ka i.h c (.agg m) with⟨k,p,_,_,_,e⟩|⟨e,_⟩|⟨e,_⟩<;>rw[e]<;>first|rfl|grind
    rw[ai];exact(t _).imp (λe=>e) .inl
   |bZ s m=>
    have ai:dJ b.S b.keep (ga i.h c (.bZ s m))=di b.S b.keep (eK i.h c (.bZ s m)):=by show dJ b.S b.keep (eK i.h c (.bZ s m))=_;rcases ka i.h c (.bZ s m) with⟨k,p,_,_,_,e⟩|⟨e,_⟩|⟨e,_⟩<;>rw[e]<;>first|rfl|grind
    rw[ai];exact(t _).imp (λe=>e) .inl
  show ti (gt (bc.app ⟨b.d,c++b.S,b.keep,b.put⟩ i).g x) (gt (b.app (pi c i)).g x);obtain⟨D,z,B,d4⟩:=b;cases D with
  |none=>
   show ti (gt (kL (c++z) B i.g) x) (gt (kL z B (pi c i).g) x);grind [pq,n0,ys]
  |some n=>
   obtain⟨D,P⟩:=n;show ti (gt ((D,P)::kL (c++z) B i.g) x) (gt ((D,P)::kL z B (pi c i).g) x);rw[gw,gw];split
   ·exact .inr (.inl rfl)
   grind [pq,n0,ys]
 intro id;show ak (b.put++nS (c++b.S) i.h) id=ak (b.put++nS b.S (del c i.h)) id;grind [so,hQ,kc]
theorem LJ (l:ic.ac E C) {o:Oper} {id:Nat} (a0:CQ ic (aI i.g) o=some (id,T::j)) {p:bc->Option A} {x:A} (a:AI ic id T j (aI i.g) i.h o p=some x):c5 E C o i (λT=>∃q,p q=some x/\T=q.app i):=by
 have Q:=λc=>e0.ok l (d:=c);have L:=l.2.2.2.2.1;have M:=l.2.2.2.1.2.2.2.1;obtain⟨a3,_,_,V,_⟩:=l;unfold AI at a;split at a
 ·cases a
 rename_i c H;cases v:e0 ic.n ic.pin c with
 |false=>grind
 |true=>
 rw[v] at a;have I:=Q c v;simp only[cond_true] at a;split at a
 case h_2=>cases a
 rename_i ap y ci O;split at a
 case h_2=>cases a
 rename_i D w Y;split at a
 ·cases a
 rename_i b F;cases t:Nat.beq b.f D with
 |false=>grind
 |true=>
 rw[t] at a;obtain rfl:=dW t;simp only[cond_true] at a;split at a
 ·cases a
 rename_i bs S;split at a
 ·cases a
 rename_i an a4;split at a
 ·cases a
 rename_i ad W;split at a
 ·cases a
 rename_i k av;obtain⟨e,P,a⟩:=bS.1 a;have R:pR (y.toList.map (aI i.g)++w) (b.ps.map lv)=some (id,T::j):=(by grind [CQ]);generalize G:jK id (y.toList.map (aI i.g)++w) (b.ps.map lv)=m at*;cases u:kE c ⟨[],(id,⟨an,ad⟩)::del [id] i.h⟩ m (ej b.ps k e) (gy b.rs (fK b.ps e)) with
 |false=>grind
 |true=>
 rw[u] at a;cases r:bV id (dZ m (ej b.ps k e)) with
 |false=>grind
 |true=>
 rw[r] at a;cases s:bV id (jG m (ej b.ps k e)) with
 |false=>grind
 |true=>
 rw[s] at a;simp only[Bool.and_self,cond_true] at a;split at a
 ·cases a
 rename_i ce U;split at a
 ·cases a
 rename_i B X;obtain⟨am,Z,a⟩:=bS.1 a;obtain⟨bl,N⟩:=BA F;obtain⟨J,K⟩:=V.1 _ N;refine c5.sub O Y H I J (K k e P) (by grind [BB,vQ]) L M S (gb W) R G.symm ?_ u (eQ.1 r) (eQ.1 s) (y':=B) (z:=am) ?_ (km Z) ⟨_,a,?_⟩
 ·grind [mW,CU]
 ·rw[U];exact congrArg some (hM X)
 rw[bc.DP]
def Sh (b:World) (e:Nat) (a:Option Addr) (g d:Nat) (f:s.underlying c=some (.slice q)):(Op.equalIn (e+1) c (.slice a g d) (.slice none 0 0)).run s b=.ok a.isNone b:=by cases a<;>simp[Op.equalIn,run_underlying f]
theorem Sf (b:World) (a:Option Addr) (e d:Nat) (f:s.underlying c=some (.slice q)):(binOp .eql c (.slice a e d) (.slice none 0 0)).run s b=.ok (.bool a.isNone) b:=by simp_all [Sh,Op.equal,Op.maxDepth,binOp]
theorem OW (s:ic.ac E C) {x:Oper} (a:BU ic (aI i.g) x=some (b,l)):c5 E C x i (λR=>∃c:Bool,R=⟨(b,.val .bool c)::i.g,i.h⟩/\(c=true->l=0)):=by
 unfold BU at a;split at a
 case h_2=>cases a
 rename_i D A j k an H J;split at a
 case h_2=>cases a
 rename_i am Z z y r F G;cases t:e0 ic.n ic.pin D with
 |false=>grind
 |true=>
 rw[t] at a;simp only[cond_true,bH,e9] at a;obtain⟨rfl,rfl⟩:=a;rw[s.1] at r;obtain⟨_,T,_,K,_⟩:=eA.ok r;rintro e f ⟨S,ad,V,m⟩ next U Y
 have o:=m.aI j;have p:=m.aI k;rw[F] at o;rw[G] at p;obtain⟨d,u⟩:∃d,d=e.eval j:=⟨_,rfl⟩;obtain⟨eu,w⟩:∃d,d=e.eval k:=⟨_,rfl⟩;rw[<-u] at o;rw[<-w] at p;cases o with|val O=>cases p with|bD _=>
 obtain⟨_,c,q,rfl,W,X,_⟩:=O;have L:e.eval j=.slice c (List.length (α:=z.den) y) q:=u.symm;have M:e.eval k=.slice none 0 0:=w.symm;have I:∀f,(eqGuard .eql A j k (.slice c (List.length (α:=z.den) y) q) (.slice none 0 0)).run E.P f=.ok () f:=λf=>(by unfold eqGuard;simp);refine Yields.wp (Q:=λB N=>B=.val .bool c.isNone/\N=[]) m (.pure (v:=.bool _) (by simp only[execOp,J,L,M,Sem.run_bind,I,Result.andThen_ok,Sf _ _ _ _ K];rfl) (.bool _) ⟨rfl,rfl⟩) H (e0.ok s t) ?_;grind
def Ta {e:IntKind} (g:E.P.underlying q=some (.array W c)) (f:dm E.P (.int e) c) {a:Act} (j:h.op=.indexAddr q (.global l) m) {o:IntKind} (i:a.eval m=.int o b) (p:b<W):(execOp a.eval h).run E.P v=.ok (.value (.pointer (some ⟨l,0+b*1,none⟩))) v:=by have d:=f.sizeOf v;have n:a.eval (.global l)=.pointer (some ⟨l,0,none⟩):=rfl;have:(0:Int)<=(b:Int)/\(b:Int)<(W:Int):=⟨U,U⟩;have k:(af.int e).size=1:=rfl;rw[k] at d;simp[execOp,j,n,i,Instr.indexAt,Instr.sureAddr,asIntOf,run_underlying g,this,d,Addr.add_lit];omega
theorem S7 (d:ic.ac E C) {A:Oper} {r:ql} {z e:Int} (a:CT ic (aI i.g) A=some (l,r,z)) (V:aL r.xs z=some e):c5 E C A i (λZ=>Z=⟨(l,.val (.ptr .bn (.int r.k)) (some e))::i.g,i.h⟩):=by
 unfold CT at a;split at a
 case h_2=>cases a
 rename_i F an bs p R S;split at a
 case h_2=>cases a
 rename_i c y q v M;cases w:e0 ic.n ic.pin F with
 |false=>grind
 |true=>
 rw[w] at a;simp only[cond_true,bH,e9] at a;obtain⟨rfl,rfl,rfl⟩:=a;have j:=List.find?_some v;have o:=zN v;rw[a5] at j;obtain rfl:=dW j.1;obtain rfl:=dW j.2;rw[d.2.2.2.1.2.2.2.2] at o;obtain⟨am,P,O⟩:=E.gok c o;rintro s dl ⟨ad,co,a4,f⟩ next ap bl
 have m:=f.aI p;rw[M] at m;generalize T:s.eval p=cv at m;cases m with|val Y=>
 obtain⟨_,rfl⟩:=Y;obtain⟨ai,K,L⟩:=Fl V;obtain⟨_,av,a3,u,aq,ci,B⟩:=f.glob d.2.2.2.2.1 d.2.2.2.1.2.2.2.1 c o;simp only[fd,Value.slice.injEq,and_true] at u;obtain⟨rfl,_⟩:=u;rcases B with B|⟨a0,ce,t,N,X⟩
 ·grind
 simp only[bH,Addr.mk.injEq,and_true] at t;obtain⟨rfl,rfl⟩:=t;obtain⟨J,G,H,I⟩:=X _ _ L;have U:s.eval p=.int y (q.toNat:Nat):=(by rw[T];show Value.int y q=_;grind);refine Yields.wp (Q:=λD W=>D=.val (.ptr .bn (.int c.k)) (some e)/\W=[]) f (.pure (Ta P O S U K) (.val (τ:=.ptr .bn (.int c.k)) (x:=some e) (cs:=[.pointer (some ⟨c.b,0+q.toNat*1,none⟩)]) ⟨rfl,c.b,_,J,rfl,N,G,H,I⟩) ⟨rfl,rfl⟩) R (e0.ok d w) ?_;grind
def Im (b:World) (d:Nat) (a:Option Addr) (e:s.underlying c=some (.pointer q)):(Op.equalIn (d+1) c (.pointer a) (.pointer none)).run s b=.ok a.isNone b:=by cases a<;>simp[Op.equalIn,run_underlying e]
theorem Sg (b:World) (a:Option Addr) (d:s.underlying c=some (.pointer q)):(binOp .eql c (.pointer a) (.pointer none)).run s b=.ok (.bool a.isNone) b:=by simp_all [Im,Op.equal,Op.maxDepth,binOp]
theorem Si (b:World) (a:Option Addr) (d:s.underlying c=some (.pointer q)):(binOp .neq c (.pointer a) (.pointer none)).run s b=.ok (.bool (!a.isNone)) b:=by simp_all [Im,Op.equal,Op.maxDepth,binOp]
theorem OS {e:Act} {s:Nat->cO} (l:bi C i e.tmps v B z s) (a:BT i.h (aI i.g m)=some I):∃k:Option Addr,e.eval m=.pointer k/\k.isNone=I:=by
 have b:=l.aI m;obtain⟨v1,c⟩:∃j,j=e.eval m:=⟨_,rfl⟩;rw[<-c] at b;unfold BT at a;split at a
 ·rename_i D x j f;rw[f] at b;cases b with|val d=>
  obtain⟨_,d⟩:=d;cases a;cases j with
  |none=>subst d;exact⟨none,c.symm,rfl⟩
  |some G=>obtain⟨q,u,r,rfl,_⟩:=d;exact⟨some ⟨q,u,none⟩,c.symm,rfl⟩
 ·rename_i id E f;split at a
  case h_2=>cases a
  rename_i x o;split at a
  case h_2=>cases a
  rename_i F t;cases a;rw[f] at b;cases b with|ref p n=>
  rw[o] at p;cases p;have:=n.ty;rw[t] at this;cases this;obtain⟨I,w,r,rfl,y,A⟩:=mh (l.tree id _ o).1 n;exact⟨some ⟨I,w,none⟩,c.symm,rfl⟩
 grind
theorem Rx (o:ic.ac E C) {D:Oper} (a:Co ic (aI i.g) i.h D=some (b,I)):c5 E C D i (λO=>O=⟨(b,.val .bool I)::i.g,i.h⟩):=by
 unfold Co at a;split at a
 case h_2=>cases a
 rename_i J d k R f ad t x;split at a
 case h_2=>cases a
 rename_i H m K L;cases p:e0 ic.n ic.pin J with
 |false=>grind
 |true=>
 rw[p] at a;simp only[cond_true] at a;have M:∃j,E.P.underlying k=some (.pointer j):=by
  rw[o.1] at m;unfold FF at m;split at m
  ·rename_i X Z N;obtain⟨_,j,_,_,_,_,V,_⟩:=E.ok k _ N;grind
  grind
 obtain⟨j,y⟩:=M;rintro s e ⟨S,Y,U,c⟩ next T W
 have q:=c.aI f;rw[L] at q;obtain⟨eu,A⟩:∃F,F=s.eval f:=⟨_,rfl⟩;rw[<-A] at q;cases q with|bD _=>
 obtain⟨G,z,w⟩:=OS c K;have B:s.eval f=.pointer none:=A.symm;have u:∀d e,(eqGuard d k R f (.pointer G) (.pointer none)).run E.P e=.ok () e:=λd e=>(by unfold eqGuard;cases d<;>simp);split at a
 ·cases a;refine Yields.wp (Q:=λl r=>l=.val .bool I/\r=[]) c (.pure (v:=.bool _) (by simp only[execOp,x,z,B,Sem.run_bind,u,Result.andThen_ok,Sg _ _ y,w];rfl) (.bool _) ⟨rfl,rfl⟩) t (e0.ok o p) ?_;grind
 ·cases a;refine Yields.wp (Q:=λl r=>l=.val .bool (!H)/\r=[]) c (.pure (v:=.bool _) (by simp only[execOp,x,z,B,Sem.run_bind,u,Result.andThen_ok,Si _ _ y,w];rfl) (.bool _) ⟨rfl,rfl⟩) t (e0.ok o p) ?_;grind
 grind
theorem Fw (e:ic.ac E C) {l:Array Oper} {m:aB->Option A} {p:A} (f:l[b]?=some h) (k:hZ l i h true) (a:i1 ic i h m=some p) (x:∀c,m c=some p->fQ E C l g c u):fQ E C l (b::g) i u:=
by
 unfold i1 at a;split at a
 ·rename_i o B t j;obtain⟨D,s,a⟩:=bS.1 a;refine fQ.op f k ((S7 e j s).mono (λc d=>?_));grind
 split at a
 ·rename_i o n j;refine fQ.op f k ((Rx e j).mono (λc d=>?_));grind
 split at a
 ·rename_i o t j;obtain⟨v,w⟩:=OV a;refine fQ.op f k ((OW e j).mono (λc d=>?_));obtain⟨n,rfl,y⟩:=d;cases n with
  |false=>grind
  |true=>grind
 split at a
 ·rename_i id c z d;exact fQ.op f k ((LJ e d a).mono (λc ⟨q,r,d⟩=>by grind))
 exact fQ.op f k ((EM e a).mono (λc ⟨q,r,d⟩=>by grind))
theorem u9 {l2:cO} (d:ic.ac E C) {q:Array Oper} {s:aB->Option A} {y:A} {t:aB->Prop} (f:∀k,s k=some y->fQ E C q l2 k t):∀{p:cO} {b:aB},iq ic q p b s=some y->fQ E C q (p++l2) b t
 |[],b,a=>f _ a
 |i::p,b,a=>by
  simp only[iq] at a;split at a
  ·cases a
  rename_i H j;split at a
  ·rename_i z;exact Fw d j (by grind [hZ]) a (λk c=>u9 d f c)
  rename_i G l z;split at a
  case h_2=>cases a
  rename_i v u D x;split at a
  case h_3=>cases a
  case h_2=>
   rename_i I B;cases c:e0 ic.n ic.pin u with
   |false=>grind
   |true=>
   rw[c] at a;have o:=e0.ok d c;refine fQ.skip j x o ?_ (u9 d f a);grind [hZ]
  rename_i m B;cases c:e0 ic.n ic.pin u with
  |false=>grind
  |true=>
  rw[c] at a;have o:=e0.ok d c;simp only[cond_true] at a;split at a
  ·rename_i w;obtain rfl:m=l:=(by grind);have r:∀e,gt (⟨(v,.val .bool m)::b.g,b.h⟩:aB).g e=gt b.g e:=λe=>by
    grind [gw]
   refine fQ.same r rfl (Fw d j ?_ a (λk c=>u9 d f c));grind [hZ]
  rename_i w;have F:m=!l:=by cases m<;>cases l<;>first|rfl|cases w
  have r:∀e,gt (⟨(v,.val .bool (!l))::b.g,b.h⟩:aB).g e=gt b.g e:=λe=>(by grind [gw]);refine fQ.same r rfl (fQ.skip j x o ?_ (u9 d f a));grind [hZ]
theorem Nk (h:ic.ac E C) {c:Array Oper} {b:aB->Option A} {d:A} (f:∀a,b a=some d->u a) (e:iq ic c g i b=some d):fQ E C c g i u:=by have:=u9 (l2:=[]) h (λa j=>fQ.nil (f a j)) e;grind
end
end
structure hJ (s t:aB):Prop where
 g:∀k,gt s.g k=gt t.g k
 h:∀id,ak s.h id=ak t.h id
def hJ.refl (a:aB):hJ a a:=⟨λ_=>rfl,λ_=>rfl⟩
def hJ.symm {c d:aB} (b:hJ c d):hJ d c:=⟨λa=>(b.g a).symm,λa=>(b.h a).symm⟩
def hJ.trans {d e f:aB} (b:hJ d e) (c:hJ e f):hJ d f:=⟨λa=>(b.g a).trans (c.g a),λa=>(b.h a).trans (c.h a)⟩
def bc.qn (a:bc) (e:aB) (b:Nat):gt (a.app e).g b=match a.d with
 |some (c,f)=>if c=b then f else dJ a.S a.keep (gt e.g b)
 |none=>dJ a.S a.keep (gt e.g b):=by
 obtain⟨c,h,i,k⟩:=a;cases c with
 |none=>
  show gt (kL h i e.g) b=_;rw[pq,n0]
 |some j=>
  obtain⟨c,f⟩:=j;show gt ((c,f)::kL h i e.g) b=_;rw[gw,pq,n0]
theorem bc.oQ (a:bc) (b:aB) (id:Nat):ak (a.app b).h id=(ak a.put id).or (if id∈a.S then none else ak b.h id):=by show ak (a.put++nS a.S b.h) id=_;rw[so,hQ,kc]
def hJ.app {c t:aB} (b:hJ c t) (a:bc):hJ (a.app c) (a.app t):=
 ⟨λd=>by rw[bc.qn,bc.qn,b.g],λd=>by rw[bc.oQ,bc.oQ,b.h]⟩
def ez.seq {a:c8} {c:cG} (b:hJ i X) (d:ez a i c v):ez a X c v:=d.less (λe=>.inr (b.g e).symm) (λid=>(b.h id).symm)
def yf:Option (Nat×ag)->cK->Bool
 |some b,some a=>Nat.beq b.1 a
 |none,none=>true
 |_,_=>false
def pH:ag->Bool
 |.dead=>false
 |_=>true
def mw (b c:cO):Bool:=b.all λa=>bV a c
theorem mw.ok (b:mw g y=true):∀a∈g,a∈y:=λa c=>eQ.1 (ew.1 b a c)
def mv (a:cO):ag->Bool
 |.ref id []=>bV (id+500000) a
 |_=>false
def sA:Op->Bool
 |.move _=>true
 |_=>false
def yt:Nat->List aO->Option (Nat×List aO)
 |k,.snd::a=>yt (k+1) a
 |k,.fst::a=>some (k,a)
 |_,_=>none
def u4:List aO->Option (Nat×List aO)
 |.deref::.unst::a=>yt 0 a
 |_=>none
def su (q:List aO):cK:=match q with
 |[]=>some 1
 |q=>match u4 q with
  |some (a,[])=>some (2*a+2)
  |some (a,_::_)=>some (2*a+3)
  |none=>none
def nI:ag->Option cy
 |.ref id a=>match su a with
  |some b=>some (id,b)
  |none=>none
 |.addr id a=>match su a with
  |some b=>some (id,b)
  |none=>none
 |.app id a _ _ d=>match bV id d,u4 a with
  |false,some (c,_)=>some (id,2*c+3)
  |_,_=>none
 |_=>none
def pw (b:cO) (a:ag):Bool:=match nI a with
 |some (id,d)=>Nat.blt id 500000&&(bV (id+1000000*d) b&&a.ids.all λc=>Nat.beq c id||bV c b)
 |none=>false
def y8 (c:List aO) (a:Nat):Bool:=match u4 c with
 |some (b,d)=>Nat.beq a 1||(Nat.ble 2 a&&(!(Nat.beq (a/2) (b+1))||(Nat.beq (a %2) 0&&mb d)))
 |none=>false
def oP (a:Operand->ag) (b:Oper):Option (Nat×List aO):=match b.op with
 |.call {callee:=.builtin .append,args:=xs,argTypes:=_}=>match xs.toList with
  |[x,_]=>match a x with
   |.ref id (d::c)=>some (id,d::c)
   |_=>none
  |_=>none
 |_=>none
def Ck (c:cO) (b:Operand->ag) (d:Oper):Bool:=c.all λa=>Nat.blt a 1000000||(match oP b d with
 |some (id,e)=>Nat.beq (a %1000000) (id+500000)&&(Nat.blt id 500000&&y8 e (a/1000000))
 |none=>false)
def NG (a:cO) (c:List (Nat×List aO)) (b:cO):Bool:=b.all λid=>Nat.blt id 500000&&((bV id a&&(bV (id+500000) a||iQ c (.ref id [])))||bV (id+1500000) a)
def wF:ag->Bool
 |.dg b=>b.all pH
 |a=>pH a
def lA (op:Op) (b:cO) (a:ag):Bool:=match op with
 |.extract _ d=>match a with
  |.dg e=>match e[d]? with
   |some c=>pH c&&(mw c.ids b||mv b c)
   |none=>false
  |_=>false
 |op=>wF a&&(mw a.ids b||((sA op&&mv b a)||pw b a))
def nW (c e:cO) (g:Operand->ag) (f:Oper) (b:bc):Bool:=
 yf b.d f.dst&&(f.op.operands.toList.all λh=>lA f.op c (g h))&&NG e b.keep b.S&&(b.put.all λa=>Nat.blt a.1 500000&&(bV a.1 e||bV (a.1+1500000) e))&&((match b.d with|some a=>mw a.2.ids c||(mv c a.2||pw c a.2)|none=>true)&&Ck e g f)
def fI {e:Type} (b:Bool) (d:Option a) (c:a->Option e):(bif b then d else none).bind c=bif b then d.bind c else none:=by cases b<;>rfl
def SU (tt:List (TypeId×af)) (d:List (Nat×az)) (c:TypeId) (f e:ag) (b:bc->Option a):oq tt d c f e b=(oq tt d c f e some).bind b:=by
 unfold oq;split
 ·rfl
 split
 case h_2=>rfl
 split
 ·rfl
 rw[fI];congr 1;split
 ·split
  case h_2=>rfl
  cases Nat.beq _ _
  ·simp only[cond_false,hk,aQ]
  rfl
 ·split
  case h_2=>rfl
  rw[fI];simp only[hk,aQ]
 split
 ·simp only[hk,aQ]
 rfl
def BQ (tt:List (TypeId×af)) (d:List (Nat×az)) (c:TypeId) (g e f:ag) (b:bc->Option a):ly tt d c g e f b=(ly tt d c g e f some).bind b:=by
 unfold ly;split
 case h_2=>rfl
 split
 case h_2=>rfl
 split
 case h_2=>rfl
 split
 case h_2=>rfl
 rw[fI];congr 1;split
 ·simp only[hk,aQ]
 rfl
def Ov (tt:List (TypeId×af)) (e:List (Nat×az)) (d:Nat) (c:TypeId) (g f:ag) (b:bc->Option a):n7 tt e d c g f b=(n7 tt e d c g f some).bind b:=by
 unfold n7;split
 case h_2=>rfl
 split
 case h_2=>rfl
 split
 case h_2=>rfl
 split
 case h_2=>rfl
 split
 case h_2=>rfl
 rw[fI];simp only[hk,aQ]
def LY (tt:List (TypeId×af)) (d:List (Nat×az)) (c:TypeId) (g e f:ag) (b:bc->Option a):nT tt d c g e f b=(nT tt d c g e f some).bind b:=by
 unfold nT;split
 case h_2=>rfl
 rw[fI,BQ]
def Ok (tt:List (TypeId×af)) (d:List (Nat×az)) (c:TypeId) (f e:ag) (b:bc->Option a):n6 tt d c f e b=(n6 tt d c f e some).bind b:=by
 unfold n6;split
 case h_2=>rfl
 split
 case h_2=>rfl
 split
 case h_2=>rfl
 split
 case h_2=>rfl
 rw[fI];simp only[hk,aQ]
def Kn (tt:List (TypeId×af)) (d:List (Nat×af)) (f:List (Nat×az)) (e:Nat) (c:TypeId) (g h:ag) (b:bc->Option a):l0 tt d f e c g h b=(l0 tt d f e c g h some).bind b:=by
 unfold l0;split
 ·rfl
 split
 ·split
  case h_2=>rfl
  rw[fI];congr 1;split
  ·simp only[hk,aQ]
  split
  case h_2=>rfl
  split
  case h_2=>rfl
  split
  case h_2=>rfl
  cases Nat.beq _ _
  ·simp only[cond_false,hk,aQ]
  rfl
 ·split
  case h_2=>rfl
  split
  case h_2=>rfl
  rw[fI];simp only[hk,aQ]
 ·split
  case h_2=>rfl
  rw[fI];simp only[hk,aQ]
 ·split
  case h_2=>rfl
  rw[fI];simp only[hk,aQ]
 rfl
def Kq (tt:List (TypeId×af)) (d:List (Nat×af)) (f:List (Nat×az)) (e:Nat) (c:TypeId) (g h:ag) (b:bc->Option a):li tt d f e c g h b=(li tt d f e c g h some).bind b:=by
 unfold li;split
 ·unfold tP;split
  case h_2=>rfl
  split
  case h_2=>rfl
  split
  case h_2=>rfl
  rw[fI];simp only[hk,aQ]
 exact Kn _ _ _ _ _ _ _ b
def Ln (tt:List (TypeId×af)) (e:List (Nat×az)) (d:Nat) (c:TypeId) (f g:ag) (b:bc->Option a):nJ tt e d c f g b=(nJ tt e d c f g some).bind b:=by
 unfold nJ;split
 ·rfl
 split
 ·split
  case h_2=>rfl
  rw[fI];simp only[hk,aQ]
 ·split
  case h_2=>rfl
  rw[fI];simp only[hk,aQ]
 rfl
def KI (tt:List (TypeId×af)) (d:List (Nat×af)) (g:List (Nat×az)) (f:Operand->ag) (e:Nat) (c:TypeId) (h:List (Nat×Operand)) (b:bc->Option a):oV tt d g f e c h b=(oV tt d g f e c h some).bind b:=by
 unfold oV;split
 ·rfl
 split
 ·rw[fI];congr 1;split
  ·rw[fI];rfl
  rfl
 rw[fI];congr 1;split
 ·rfl
 split
 ·rw[fI];rfl
 rfl
def KL (tt:List (TypeId×af)) (d:List (Nat×af)) (f:List (Nat×az)) (e:Nat) (c:TypeId) (g:ag) (b:bc->Option a):qr tt d f e c g b=(qr tt d f e c g some).bind b:=by
 unfold qr;split
 ·split
  ·rw[fI];congr 1;split<;>rfl
  ·split
   ·rw[fI];rfl
   rfl
  rfl
 rfl
def KP (tt:List (TypeId×af)) (d:List (Nat×af)) (g:List (Nat×az)) (f:Operand->ag) (e:Nat) (c:TypeId) (h:Nat) (i:List (Nat×Operand)) (b:bc->Option a):oX tt d g f e c h i b=(oX tt d g f e c h i some).bind b:=by
 unfold oX;split
 ·simp only;rw[fI];congr 1;split
  ·rfl
  split
  ·rw[fI];rfl
  rfl
 rfl
def uS {e:eU} (c:Operand->ag) (d:List (Nat×az)) (f:Oper) (b:bc->Option a):ai e c d f b=(ai e c d f some).bind b:=by
 unfold ai;split
 ·split
  ·exact SU _ _ _ _ _ b
  ·exact BQ _ _ _ _ _ _ b
  ·exact BQ _ _ _ _ _ _ b
  ·exact LY _ _ _ _ _ _ b
  ·split
   case h_2=>rfl
   exact Ok _ _ _ _ _ b
  rfl
 rw[fI];congr 1;split
 ·split
  case h_2=>rfl
  split
  ·split<;>rfl
  split<;>rfl
 ·split
  case h_2=>rfl
  split
  ·rfl
  rw[fI];congr 1;simp only[kJ,hk,fI,aQ]
 ·split
  case h_2=>rfl
  rw[fI];congr 1;exact Kq _ _ _ _ _ _ _ b
 ·split
  case h_2=>rfl
  exact Ln _ _ _ _ _ _ b
 ·split
  ·rfl
  ·rfl
  ·rfl
  ·split
   ·rfl
   split
   ·simp only[hk,aQ]
   simp only[hk,aQ]
  simp only[hk,aQ]
 ·exact KI _ _ _ _ _ _ _ b
 ·exact Ov _ _ _ _ _ _ b
 ·exact KL _ _ _ _ _ _ b
 ·exact KP _ _ _ _ _ _ _ _ b
 split
 ·rfl
 ·simp only[hk,aQ]
 ·rw[fI];simp only[hk,aQ]
 split
 ·rfl
 ·simp only[hk,aQ]
 rfl
theorem LF {f:eU} (c:Operand->ag) (d:List (Nat×az)) (e:Oper) (b:bc->Option a):hy f c d e b=(hy f c d e some).bind b:=by
 unfold hy;split
 ·exact uS c d e b
 rw[fI];congr 1;refine(uS _ _ _ _).trans (Eq.trans ?_ (congrArg (λg=>Option.bind g b) (uS _ _ _ _)).symm);simp only[hk,fI,aQ]
def Fi:∀{d:List aO} {c b:Nat} {e:List aO},yt c d=some (b,e)->c<=b/\d=List.replicate (b-c) .snd++.fst::e
 |[],_,_,_,a=>by cases a
 |s::d,c,b,e,a=>by
  cases s<;>simp only[yt] at a<;>first|(cases a;done)|skip
  ·cases a;exact⟨a2 _,ab⟩
  obtain⟨g,f⟩:=Fi a;refine⟨U,?_⟩;rw[(U:b-c=(b-(c+1))+1),List.replicate_succ,h3,<-f]
def yu {c:List aO} (a:u4 j=some (b,c)):j=.deref::.unst::(List.replicate b .snd++.fst::c):=by
 unfold u4 at a;split at a
 ·rename_i j;have:=(Fi a).2;rw[Nat.sub_zero] at this;rw[this]
 cases a
def yc:∀{j k:Nat} {r r':List aO},j≠k->ig (List.replicate j .snd++.fst::r) (List.replicate k .snd++.fst::r')=true
 |0,0,_,_,a=>absurd rfl a
 |0,k+1,_,_,_=>rfl
 |j+1,0,_,_,_=>rfl
 |j+1,k+1,r,r',a=>yc (j:=j) (k:=k) (r:=r) (r':=r') (λb=>a (by rw[b]))
def FH:∀{j:Nat} {r:List aO},eP (List.replicate j .snd++.fst::r) (List.replicate j .snd++[.fst])=mb r
 |0,r=>by cases r<;>rfl
 |j+1,r=>FH (j:=j) (r:=r)
def Rf {id:Nat} (h:y8 j b=true) (e:nI d=some (id,b)) (z:∀k∈d.ids,k=id\/k∉g):hp g [(id,j),(id,[])] d=true:=by
 unfold y8 at h;split at h
 case h_2=>cases h
 rename_i k t E;have p:=yu E;have C:mb j=true:=(by rw[p];rfl);have H:∀i:Nat,Nat.beq i i=true:=oJ;have w:∀f,su f=some b->eP j f=true:=by
  intro f l;unfold su at l;split at l
  ·have:eP j []=mb j:=by cases j with|nil=>rfl|cons q j=>cases q<;>rfl
   rw[this];exact C
  split at l
  ·rename_i a o;cases l;rw[yu o,p];have m:(2*a+2)/2=a+1:=U;have n:(2*a+2) %2=0:=U;rw[m,n] at h;show eP (List.replicate k .snd++.fst::t) (List.replicate a .snd++[.fst])=true;by_cases c:k=a
   ·subst c;rw[FH];simpa using h
   exact yb (yc c)
  ·rename_i a q F o;cases l;rw[yu o,p];have m:(2*a+3)/2=a+1:=U;have n:(2*a+3) %2=1:=U;rw[m,n] at h;show eP (List.replicate k .snd++.fst::t) (List.replicate a .snd++.fst::(q::F))=true;by_cases c:k=a
   ·subst c;simp at h
   exact yb (yc c)
  cases l
 unfold nI at e;split at e
 ·rename_i i f;split at e
  case h_2=>cases e
  rename_i y r;cases e;cases f with
  |nil=>simp[hp,iQ]
  |cons q f=>simp[hp,iQ,w _ r]
 ·rename_i i f;split at e
  case h_2=>cases e
  rename_i y r;cases e;simp[hp,iQ,Bq,w _ r]
 ·rename_i i f J I v;split at e
  case h_2=>cases e
  rename_i a G u o;cases e;have m:(2*a+3)/2=a+1:=U;have n:(2*a+3) %2=1:=U;rw[m,n] at h;have A:ig j f=true:=by
   rw[yu o,p];show ig (List.replicate k .snd++.fst::t) (List.replicate a .snd++.fst::G)=true;by_cases c:k=a
   ·subst c;simp at h
   exact yc c
  have D:(v.all λi=>!(bV i g))=true:=ew.2 λx s=>by
   rcases z x (eJ _ s) with c|c
   ·rw[c] at s;rw[eQ.2 s] at u;cases u
   cases B:bV x g
   ·rfl
   exact absurd (eQ.1 B) c
  show((v.all λi=>!(bV i g))&&([(id,j),(id,[])].any λc=>Nat.beq c.1 id&&ig c.2 f))=true;rw[D];simp[A]
 cases e
section
theorem BN {g B:Operand->ag} {b:List (Nat×Operand)} (d:∀e∈b,g e.2=B e.2):∀(f:af) (a:Nat),m1 g b f a=m1 B b f a
 |.pr j h,a=>by
  simp only[m1,BN d h (a+1)];cases i:jk b a with
  |none=>rfl
  |some c=>
   have:g c=B c:=d (a,c) (ve i);grind
 |.nil,_=>rfl
 |.int _,_=>rfl
 |.bool,_=>rfl
 |.str,_=>rfl
 |.aV _ _,_=>rfl
 |.ptr _ _,_=>rfl
 |.osl _,_=>rfl
 |.optr _,_=>rfl
 |.st _,_=>rfl
 |.bP,_=>rfl
 |.mp _,_=>rfl
 |.dh _ _,_=>rfl
theorem Ge {h:List (Nat×az)} {g B:Operand->ag} {b:List (Nat×Operand)} (d:∀e∈b,g e.2=B e.2):∀(f:af) (a:Nat),ke h g b f a=ke h B b f a
 |.pr k i,a=>by
  simp only[ke,Ge d i (a+1)];cases j:jk b a with
  |none=>rfl
  |some c=>
   have:g c=B c:=d (a,c) (ve j);grind
 |.nil,_=>rfl
 |.int _,_=>rfl
 |.bool,_=>rfl
 |.str,_=>rfl
 |.aV _ _,_=>rfl
 |.ptr _ _,_=>rfl
 |.osl _,_=>rfl
 |.optr _,_=>rfl
 |.st _,_=>rfl
 |.bP,_=>rfl
 |.mp _,_=>rfl
 |.dh _ _,_=>rfl
section
variable {tt:List (TypeId×af)} {an:List (Nat×af)} {h A:List (Nat×az)} {d:Nat} {g B:Operand->ag}
theorem y6 {a:cF} (c:∀b∈a.toArray,g b=B b):a.map g=a.map B:=by
 cases a with
 |none=>rfl
 |some b=>grind
theorem L4 (b:∀a∈N.operands,g a=B a):eE tt an h g d N=eE tt an h B d N:=by
 cases N
 case build T ps=>
  have:∀e∈ps.toList,g e.2=B e.2:=λe l=>b e.2 (by simp only[Op.operands,tA,c4];grind);grind [BN,eE,tS]
 case buildSlice T n ps=>
  have:∀e∈ps.toList,g e.2=B e.2:=λe l=>b e.2 (by simp only[Op.operands,tA,c4];grind);grind [List.map_congr_left,eE,r2]
 case slice T a i hi o=>
  simp only[Op.operands] at b;have s:g a=B a:=b a ab;have t:i.map g=i.map B:=y6 (λf m=>b f (by grind));have u:hi.map g=hi.map B:=y6 (λf m=>b f (by grind));cases o
  ·grind [eE]
  rfl
 case makeMap T p=>
  cases p<;>rfl
 case makeFunc k r cs=>
  cases k<;>try rfl
  grind [List.map_congr_left,Array.mem_append_right,eE,Op.operands]
 case call c=>
  obtain⟨q,j,x⟩:=c;have v:∀a∈j.toList,g a=B a:=λa w=>b a (by grind [Array.mem_append_right,Op.operands,Call.operands]);clear b;simp only[eE];split
  ·grind
  ·grind [List.map_congr_left]
  ·grind [List.map_congr_left]
  rfl
 all_goals (simp only[Op.operands] at b;simp only[eE])
 all_goals (first|rfl|(simp_all;done))
theorem L7 (b:∀a∈N.operands,g a=B a):hO tt an h g d N=hO tt an h B d N:=by
 cases N
 case slice T a i hi k=>
  simp only[Op.operands] at b;have f:g a=B a:=b a ab;have m:i.map g=i.map B:=y6 (λe j=>b e (by grind));have n:hi.map g=hi.map B:=y6 (λe j=>b e (by grind));cases k
  ·simp_all [hO]
  rfl
 case call c=>
  grind [Array.mem_append_right,ai,hO,Op.operands,Call.operands]
 case unOp l T a=>
  have f:g a=B a:=b a (by simp[Op.operands]);cases l<;>simp only[hO,f]
 all_goals (simp only[Op.operands] at b;simp only[hO])
 all_goals (first|rfl|(simp_all;done))
theorem EI {k:eU} {n:Oper} {r:bc->Option a} (c:∀j∈n.op.operands,g j=B j):ai k g h n r=ai k B h n r:=by
 have x:=λ(d:Nat)=>L7 (tt:=k.tt) (an:=k.an) (h:=h) (d:=d) c;have w:=λ(d:Nat)=>L4 (tt:=k.tt) (an:=k.an) (h:=h) (d:=d) c;unfold ai;cases y:n.dst with
 |none=>
  simp only;split
  ·grind [Op.operands]
  ·grind [Op.operands]
  ·grind [Op.operands]
  ·grind [Op.operands]
  ·rename_i i t e;rw[e] at c;split
   ·rename_i j u l s ai _;have p:∀b∈i.toList,g b=B b:=λb m=>c b (by grind [Array.mem_append_right,Op.operands,Call.operands]);grind
   rfl
  rfl
 |some d=>
  simp only;congr 1;split
  ·grind [Op.operands]
  ·rename_i b i _ e;rw[e] at c;have:i.toList.map g=i.toList.map B:=ht λj p=>c j (by grind [Array.mem_append_right,Op.operands,Call.operands]);have m:g b=B b:=c b (by simp[Op.operands,Call.operands]);rw[this,m]
  ·rename_i i t e;rw[e] at c;split
   ·rename_i j u l s ai _;have p:∀b∈i.toList,g b=B b:=λb m=>c b (by grind [Array.mem_append_right,Op.operands,Call.operands]);grind
   rfl
  ·rename_i i t e;rw[e] at c;split
   ·rename_i j u l s ai _;have p:∀b∈i.toList,g b=B b:=λb m=>c b (by grind [Array.mem_append_right,Op.operands,Call.operands]);grind
   rfl
  ·grind [Op.operands]
  ·rename_i l q e;rw[e] at c;have o:∀f∈q.toList,g f.2=B f.2:=λf v=>c f.2 (by simp only[Op.operands,tA,c4];grind);simp only[oV,BN o,Ge o]
  ·grind [Op.operands]
  ·grind [Op.operands]
  ·rename_i l z q e;rw[e] at c;have o:∀f∈q.toList,g f.2=B f.2:=λf v=>c f.2 (by simp only[Op.operands,tA,c4];grind);grind [List.map_congr_left,oX]
  grind
def ef (h A:List (Nat×az)) (a:ag):Prop:=∀id∈a.ids,ak h id=ak A id
def Ro (a:ef h A t):oe h t=oe A t:=by
 cases t with
 |ref id b=>simp only[oe,a id (by simp[ag.ids])]
 |_=>rfl
theorem Rn {id:Nat} (a:oe h t=some (id,j)):id∈t.ids:=by
 unfold oe at a;split at a
 ·grind [ag.ids]
 ·grind [ag.ids]
 grind
theorem SV {b:ag} {d:bc->Option a} (e:ef h A b) (g:ef h A t):oq tt h c b t d=oq tt A c b t d:=by
 unfold oq;rw[<-Ro e];split
 ·rfl
 rename_i id j f;rw[e id (Rn f)];cases t with
 |ref i k=>simp only[g i (by simp[ag.ids])]
 |_=>rfl
theorem Jk (a:ef h A t):iy h n t=iy A n t:=by
 cases t with
 |ref id b=>simp only[iy,a id (by simp[ag.ids])]
 |view id b e d=>simp only[iy,a id (by simp[ag.ids])]
 |val c g=>cases c<;>rfl
 |bD f=>unfold iy;grind
 |_=>rfl
theorem Ko {e:ag} {j:bc->Option a} (f:ef h A e) (k:ef h A t) (n:ak h d=ak A d):l0 tt an h d c e t j=l0 tt an A d c e t j:=by
 unfold l0;split
 ·rfl
 have g:∀i:af,iy h i t=iy A i t:=λi=>Jk k;cases e with
 |ref id b=>
  cases b with
  |nil=>
   simp only[f id (by simp[ag.ids]),g];cases t with
   |ref o l=>
    cases l with
    |nil=>simp only[k o (by simp[ag.ids])]
    |cons m l=>rfl
   |_=>rfl
  |cons m b=>simp only[f id (by simp[ag.ids]),g,n]
 |view id b q p=>
  cases b with
  |nil=>simp only[f id (by simp[ag.ids]),g]
  |cons m b=>rfl
 |bD r=>grind
 |_=>rfl
def Q7 {a:ag} (d:ef h A t):rb h a t=rb A a t:=by
 unfold rb;cases a with
 |ref id b=>
  cases b with
  |nil=>rfl
  |cons f b=>
   cases t with
   |ref e c=>
    cases c with
    |nil=>simp only[d e (by simp[ag.ids])]
    |cons g c=>rfl
   |_=>rfl
 |_=>rfl
theorem Kr {b:ag} {e:bc->Option a} (g:ef h A t) (i:ef h A b) (f:ak h d=ak A d):li tt an h d c t b e=li tt an A d c t b e:=by
 unfold li;rw[Q7 i,Ko g i f];split
 ·rename_i id l k m j;obtain⟨rfl,_,_⟩:=Ch j;unfold tP;rw[g id (by simp[ag.ids]),f]
 rfl
theorem Lo {e:ag} {g:bc->Option a} (i:ef h A e) (k:ef h A t):nJ tt h d c e t g=nJ tt A d c e t g:=by
 unfold nJ;split
 ·rfl
 have j:∀f:af,iy h f t=iy A f t:=λf=>Jk k;cases e with
 |ref id b=>
  cases b with
  |nil=>simp only[i id (by simp[ag.ids]),j]
  |cons l b=>rfl
 |view id b n m=>
  cases b with
  |nil=>simp only[i id (by simp[ag.ids]),j]
  |cons l b=>rfl
 |_=>rfl
theorem z9 (b:ef h A t):mO an h d t=mO an A d t:=by
 cases t with
 |ref id a=>
  cases a with
  |nil=>simp only[mO,b id (by simp[ag.ids])]
  |cons c a=>rfl
 |view id a f e=>
  cases a with
  |nil=>simp only[mO,b id (by simp[ag.ids])]
  |cons c a=>rfl
 |bD t=>unfold mO;grind
 |_=>rfl
def Rc (b:ef h A t):sX h n t=sX A n t:=by
 cases t with
 |ref id a=>
  cases a with
  |nil=>simp only[sX,b id (by simp[ag.ids])]
  |cons c a=>rfl
 |_=>rfl
def Gf {b:List (Nat×Operand)} (c:∀i∈b,ef h A (g i.2)):∀(d:af) (a:Nat),ke h g b d a=ke A g b d a
 |.pr k e,a=>by
  simp only[ke,Gf c e (a+1)];cases f:jk b a with
  |none=>rfl
  |some j=>simp only[Rc (c (a,j) (ve f))]
 |.nil,_=>rfl
 |.int _,_=>rfl
 |.bool,_=>rfl
 |.str,_=>rfl
 |.aV _ _,_=>rfl
 |.ptr _ _,_=>rfl
 |.osl _,_=>rfl
 |.optr _,_=>rfl
 |.st _,_=>rfl
 |.bP,_=>rfl
 |.mp _,_=>rfl
 |.dh _ _,_=>rfl
def Lb (b:ef h A t):qt h n t=qt A n t:=by
 cases t with
 |ref id a=>
  cases a with
  |nil=>simp only[qt,b id (by simp[ag.ids])]
  |cons c a=>rfl
 |_=>rfl
theorem Ev {c:af}:∀{l:List ag},(∀a∈l,ef h A a)->qu h c l=qu A c l
 |[],_=>rfl
 |x::d,b=>by simp only[qu,Lb (b x ab),Ev (l:=d) (λa e=>b a (by grind))]
def DZ (a:ef h A t):lj h y t n=lj A y t n:=by
 cases t with
 |ref id b=>simp only[lj,a id (by simp[ag.ids])]
 |_=>rfl
theorem ag.Gb {id:Nat} (c:t∈L) (e:id∈t.ids):id∈(ag.bZ b L).ids:=by obtain⟨a,d,rfl⟩:=g9.1 c;exact ag.vl (l:=L) (i:=a) (bA d) e
theorem Fm {b:cO}:∀{τs:List af} {avs:List ag},(∀a∈avs,ef h A a)->ma h b τs avs=ma A b τs avs
 |[],[],_=>rfl
 |[],_::_,_=>rfl
 |_::_,[],_=>rfl
 |τ::e,d::as,c=>by simp only[ma,DZ (c d ab),Fm (τs:=e) (avs:=as) (λa f=>c a (by grind))]
theorem pk {S:cO}:∀{ps:List eX} {avs:List ag},(∀b∈avs,ef h A b)->dF h S ps avs=dF A S ps avs
 |[],[],_=>rfl
 |[],_::_,_=>rfl
 |p::d,[],_=>by cases p<;>rfl
 |.v q::d,e::as,a=>by simp only[dF,DZ (a e ab),pk (ps:=d) (avs:=as) (λb g=>a b (by grind))]
 |.c z r::d,e::as,a=>by
  have f:=pk (S:=S) (ps:=d) (avs:=as) (λb g=>a b (by grind));cases e with
  |bZ u i=>
   have:ma h S r i=ma A S r i:=Fm (λb g id t=>a (.bZ u i) ab id (ag.Gb g t));grind [dF]
  |_=>rfl
 |.m q::d,e::as,a=>by
  have f:=pk (S:=S) (ps:=d) (avs:=as) (λb g=>a b (by grind));cases e with
  |ref id p=>
   cases p with
   |nil=>simp only[dF,a (.ref id []) ab id (by simp[ag.ids]),f]
   |cons l p=>rfl
  |_=>rfl
 |.o q::d,e::as,a=>by
  have f:=pk (S:=S) (ps:=d) (avs:=as) (λb g=>a b (by grind));cases e with
  |ref id p=>
   cases p with
   |nil=>simp only[dF,a (.ref id []) ab id (by simp[ag.ids]),f]
   |cons l p=>rfl
  |bD x=>grind [dF]
  |_=>rfl
 |.w B::d,e::as,a=>by
  have f:=pk (S:=S) (ps:=d) (avs:=as) (λb g=>a b (by grind));cases e with
  |view id p k j=>
   cases p with
   |nil=>simp only[dF,a (.view id [] k j) ab id (by simp[ag.ids]),f]
   |cons l p=>rfl
  |_=>rfl
 |.n::d,e::as,a=>by
  have f:=pk (S:=S) (ps:=d) (avs:=as) (λb g=>a b (by grind));cases e with
  |bD x=>grind [dF]
  |_=>rfl
 |.s y i::d,e::as,a=>by
  have f:=pk (S:=S) (ps:=d) (avs:=as) (λb g=>a b (by grind));cases e with
  |ref id p=>grind [dF]
  |view id p k j=>grind [dF]
  |_=>simp only[dF,f]
theorem NW (a:ef h A t):qX tt h c t=qX tt A c t:=by
 unfold qX;cases t with
 |ref id d=>simp only[a id (by simp[ag.ids])]
 |app id d b i e=>simp only[a id (by simp[ag.ids])]
 |val b j=>cases eA tt c with|none=>rfl|some f=>cases b<;>rfl
 |bD g=>grind
 |_=>rfl
theorem OD (a:ef h A t):q4 tt h c t=q4 tt A c t:=by
 unfold q4;cases t with
 |ref id d=>simp only[a id (by simp[ag.ids])]
 |val b f=>cases it tt c with|none=>rfl|some e=>cases b<;>rfl
 |_=>rfl
def N5 {a:ag} (b:ef h A t):qZ tt h c t a I=qZ tt A c t a I:=by
 unfold qZ;cases t with
 |ref id e=>simp only[b id (by simp[ag.ids])]
 |val d f=>split<;>first|rfl|(cases d<;>rfl)
 |_=>split<;>rfl
theorem OB (a:ak h d=ak A d):sN tt an h d c=sN tt an A d c:=by grind [sN]
theorem BR {b:bc->Option a} {d e:ag} (f:ef h A t):ly tt h c t d e b=ly tt A c t d e b:=by
 unfold ly;cases t with
 |ref id g=>simp only[f id (by simp[ag.ids])]
 |_=>rfl
theorem Ow {b:bc->Option a} {e:ag} (f:ef h A t):n7 tt h d c t e b=n7 tt A d c t e b:=by
 unfold n7;cases t with
 |ref id g=>simp only[f id (by simp[ag.ids])]
 |_=>rfl
theorem LZ {b:bc->Option a} {d e:ag} (f:ef h A t):nT tt h c t d e b=nT tt A c t d e b:=by unfold nT;grind [BR]
theorem Ol {b:bc->Option a} {d:ag} (e:ef h A t):n6 tt h c t d b=n6 tt A c t d b:=by
 unfold n6;cases t with
 |ref id f=>simp only[e id (by simp[ag.ids])]
 |_=>rfl
def Nl {b:ag} (a:ef h A t):qT tt h c t b=qT tt A c t b:=by
 unfold qT;cases t with
 |ref id d=>simp only[a id (by simp[ag.ids])]
 |view id d g f=>simp only[a id (by simp[ag.ids])]
 |val e j=>cases e<;>rfl
 |bD i=>rfl
 |_=>rfl
theorem N2 (a:ef h A t):qY tt h c t=qY tt A c t:=by
 unfold qY;cases t with
 |ref id b=>simp only[a id (by simp[ag.ids])]
 |addr id b=>simp only[a id (by simp[ag.ids])]
 |val d f=>cases d<;>first|rfl|grind
 |bD e=>rfl
 |_=>rfl
theorem MF (a:ef h A t):qO tt h c t b=qO tt A c t b:=by
 unfold qO;cases t with
 |ref id d=>simp only[a id (by simp[ag.ids])]
 |addr id d=>simp only[a id (by simp[ag.ids])]
 |val e g=>cases e<;>first|rfl|grind
 |bD f=>rfl
 |_=>rfl
def MH (a:ef h A t):h1.sv tt h c t b=h1.sv tt A c t b:=by
 unfold h1.sv;cases t with
 |ref id e=>simp only[a id (by simp[ag.ids])]
 |val d g=>cases d<;>rfl
 |bD f=>rfl
 |_=>rfl
def OT (a:ef h A t):q6 h t=q6 A t:=by
 unfold q6;cases t with
 |ref id c=>simp only[a id (by simp[ag.ids])]
 |val b e=>cases b<;>rfl
 |bD d=>rfl
 |_=>rfl
def SB {b a:Option ag} (d:ef h A t):rl tt h c t b a=rl tt A c t b a:=by
 unfold rl;cases t with
 |ref id f=>simp only[d id (by simp[ag.ids])]
 |val e i=>cases e<;>rfl
 |bD g=>rfl
 |_=>rfl
theorem Og {a:ag} (b:ak h d=ak A d):q1 tt an h d c a t=q1 tt an A d c a t:=by grind [q1]
theorem Kf (a:ak h d=ak A d):rU tt an h d c=rU tt an A d c:=by grind [rU]
theorem L5 (b:∀a∈N.operands,ef h A (g a)) (e:ak h d=ak A d):eE tt an h g d N=eE tt an A g d N:=by
 cases N
 case box T a=>grind [eE,tT]
 case buildSlice T n ps=>grind [eE,r2]
 case alloc T=>exact Kf e
 case makeSlice T l c=>exact Og e
 case makeMap T o=>
  cases o
  ·exact OB e
  rfl
 case lookup T a k ok=>exact N5 (b a (by simp[Op.operands]))
 case load T a=>exact N2 (b a (by simp[Op.operands]))
 case nilCheck a=>exact OT (b a (by simp[Op.operands]))
 case indexAddr T a i=>exact Nl (b a (by simp[Op.operands]))
 case fieldAddr T a n=>exact MF (b a (by simp[Op.operands]))
 case field T a n=>exact MH (b a (by simp[Op.operands]))
 case slice T a t hi m=>
  cases m
  ·exact SB (b a (by simp[Op.operands]))
  rfl
 case call c=>
  obtain⟨p,f,u⟩:=c;have r:∀a∈f.toList,ef h A (g a):=λa s=>b a (by grind [Array.mem_append_right,Op.operands,Call.operands]);clear b;simp only[eE];split
  ·grind [OD,NW]
  ·rfl
  ·rfl
  rfl
 case makeFunc j q cs=>cases j<;>rfl
 all_goals rfl
theorem L8 (j:∀b∈N.operands,ef h A (g b)) (y:ak h d=ak A d):hO tt an h g d N=hO tt an A g d N:=by
 cases N
 case lookup f b k ok=>
  have a:=j b (by simp[Op.operands]);simp only[hO];split
  ·rename_i v id e z ai q x;rw[q] at a;rw[a id (by simp[ag.ids])]
  rfl
 case makeSlice f l c=>grind [hO]
 case unOp u f b=>cases u<;>rfl
 case indexAddr f b i=>
  have a:=j b (by simp[Op.operands]);simp only[hO];revert a;cases g b with
  |ref id e=>intro a;simp only[a id (by simp[ag.ids])]
  |view id e s r=>
   intro a;cases e with
   |nil=>simp only[a id (by simp[ag.ids])]
   |cons=>rfl
  |val m o=>intro _;cases m<;>rfl
  |_=>intro _;rfl
 case load f b=>
  have a:=j b (by simp[Op.operands]);simp only[hO];revert a;cases g b with
  |ref id e=>intro a;simp only[a id (by simp[ag.ids])]
  |addr id e=>intro a;simp only[a id (by simp[ag.ids])]
  |val m o=>intro _;cases m<;>rfl
  |_=>intro _;rfl
 case slice f b s r t=>
  have a:=j b (by simp[Op.operands]);cases t
  ·simp only[hO];revert a;cases g b with
   |ref id e=>intro a;simp only[a id (by simp[ag.ids])]
   |val m o=>intro _;cases m<;>rfl
   |_=>intro _;rfl
  rfl
 case call c=>
  obtain⟨w,p,B⟩:=c;have n:∀b∈p.toList,ef h A (g b):=λb a=>j b (by grind [Array.mem_append_right,Op.operands,Call.operands]);clear j;simp only[hO];split
  ·rename_i b f ai _;rw[ai] at n;have a:=n b ab;cases eA tt f with
   |none=>
    revert a;cases g b with
    |ref id e=>intro a;simp only;rw[a id (by simp[ag.ids])]
    |_=>intro _;rfl
   |some v=>
    revert a;cases g b with
    |ref id e=>intro a;simp only;rw[a id (by simp[ag.ids])]
    |_=>intro _;rfl
  rfl
 all_goals rfl
theorem pC {a:Callee} (b:m∈R.toList):m∈(Op.call {callee:=a,args:=R,argTypes:=V}).operands:=by grind [Array.mem_append_right,Op.operands,Call.operands]
theorem EJ {t:eU} {s:Oper} (a:ai t g h s some=some p) (e:∀l∈s.op.operands,ef h A (g l)) (o:∀d,s.dst=some d->ak h d=ak A d) (q:∀b∈p.put,ak h b.1=ak A b.1):ai t g A s some=some p:=by
 unfold ai at a|-;cases v:s.dst with
 |none=>
  rw[v] at a;simp only at a|-;split at a
  ·grind [SV,Op.operands]
  ·grind [BR,Op.operands]
  ·grind [BR,Op.operands]
  ·grind [LZ,Op.operands]
  ·grind [Ol,pC]
  omega
 |some d=>
  rw[v] at a;have o:=o d v;simp only at a|-;cases G:e0 t.n t.pin d with
  |false=>grind
  |true=>
  rw[G] at a;simp only[cond_true] at a|-;split at a
  ·omega
  ·rename_i J z _ i;rw[i] at e;split at a
   case h_2=>cases a
   rename_i D x I
   try rw[I]
   try simp only
   have F:∀j∈z.toList.map g++x,ef h A j:=λj k=>by
    rcases eI.1 k with k|k
    ·grind [pC]
    intro id N;exact e J (by simp[Op.operands,Call.operands]) id (by grind [ag.Gb])
   split at a
   ·cases a
   rename_i c K;cases E:Nat.beq c.f D with
   |false=>grind
   |true=>
   rw[E] at a;simp only[cond_true,kJ] at a|-;rw[<-pk F];obtain⟨j,k,a⟩:=bS.1 a;obtain⟨m,H,a⟩:=bS.1 a;simp only[k,H,aQ];cases C:kE d ⟨[],h⟩ (z.toList.map g++x) (ej c.ps j m) (gy c.rs (fK c.ps m)) with
   |false=>grind
   |true=>
   rw[C] at a;have L:kE d ⟨[],A⟩ (z.toList.map g++x) (ej c.ps j m) (gy c.rs (fK c.ps m))=true:=(by rw[<-C];unfold kE;congr 1;rw[np,ew,ew];cases a;have w:∀b∈gz d (gd (gy c.rs (fK c.ps m))) 0 (gy c.rs (fK c.ps m)),ak h b.1=ak A b.1:=λb w=>q b (by grind);grind);grind
  ·grind [Kr,pC]
  ·grind [Lo,pC]
  ·rename_i l i;rw[i] at e;have r:=e l (by simp[Op.operands]);revert a r;cases g l with
   |val T S=>grind
   |bD R=>grind [z9]
   |ref id u=>grind [z9]
   |view id u O M=>grind [z9]
   |_=>intro a _;exact a
  ·rename_i B y i;rw[i] at e;have q:∀b∈y.toList,ef h A (g b.2):=λb w=>e b.2 (by simp only[Op.operands,tA,c4];grind);rw[<-a];simp only[oV,Gf q,o]
  ·grind [Ow,Op.operands]
  ·rename_i B l i;rw[i] at e;have r:=e l (by simp[Op.operands]);rw[<-a];simp only[qr,o];revert r;cases g l with
   |ref id u=>
    intro r;cases u with
    |nil=>simp only[r id (by simp[ag.ids])]
    |cons Q u=>rfl
   |_=>intro _;rfl
  ·rename_i B P y i;rw[i] at e;have q:∀j∈y.toList.map (λb=>g b.2),ef h A j:=λj k=>by
    obtain⟨b,w,rfl⟩:=c4.1 k;exact e b.2 (by simp only[Op.operands,tA,c4];grind)
   rw[<-a];simp only[oX,Ev q,o]
  grind [L8,L5]
end
theorem Jb:∀d∈ox N,d∈N.operands:=by
 intro d b;cases N<;>simp only[ox] at b<;>first|(cases b;done)|skip
 case assign y=>grind [Op.operands]
 case box T y=>grind [Op.operands]
 case build T ps=>grind [Op.operands]
 case buildSlice T n ps=>grind [Op.operands]
 case store T a v=>grind [Op.operands]
 case mapUpdate T a k v=>grind [Op.operands]
 case insert T a k v=>grind [Op.operands]
 case entryStore T a k v=>grind [Op.operands]
 case call c=>
  obtain⟨f,e,g⟩:=c;simp only at b;split at b
  ·exact pC b
  ·exact pC (List.mem_of_mem_drop b)
  grind
theorem yr {e:cQ} {f:Nat} {g:Operand->ag}:∀{a:List Operand},∀id∈jB e f g a,∃x∈a,g x=.ref id []
 |[],id,h=>by cases h
 |x::a,id,h=>by
  simp only[jB] at h;split at h
  ·rename_i j i;rw[Bool.cond_eq_ite] at h;split at h
   ·rcases dk.1 h with rfl|h
    ·grind
    obtain⟨d,c,b⟩:=yr id h;grind
   obtain⟨d,c,b⟩:=yr id h;grind
  obtain⟨d,c,b⟩:=yr id h;grind
theorem Fh {a:cQ} {c:Nat} {g B:Operand->ag}:∀{l:List Operand},(∀x∈l,g x=B x)->jB a c g l=jB a c B l
 |[],_=>rfl
 |x::l,b=>by simp only[jB,b x ab,Fh (l:=l) (λd e=>b d (by grind))]
theorem Fg {h A:List (Nat×az)} (c:∀id∈g,ak h id=ak A id) (a:ag):eK h g a=eK A g a:=by
 cases a with
 |ref id b=>
  cases b with
  |nil=>
   grind [eQ,bV,eK]
  |cons d b=>rfl
 |_=>rfl
theorem MP {h A:List (Nat×az)} (d:∀id∈g,ak h id=ak A id) (a:ag):ga h g a=ga A g a:=by
 by_cases c:∃b,a=.dg b
 ·obtain⟨b,rfl⟩:=c;grind [List.map_congr_left,Fg,ga]
 grind [A8,Fg]
theorem Ff {h:List (Nat×az)}:∀id∈(eK h g d).ids,id∈d.ids:=by
 intro id b;rcases ka h g d with⟨e,c,rfl,_,_,a⟩|⟨a,_⟩|⟨a,_⟩
 ·rw[a] at b;have:(nX c).ids=[]:=(by unfold nX;split<;>rfl);grind
 ·rw[a] at b;cases b
 grind
def FA {c:ag->ag} (d:∀a,∀id∈(c a).ids,id∈a.ids):∀{b:List ag} {id:Nat},id∈ag.lu (b.map c)->id∈ag.lu b
 |[],_,h=>h
 |a::b,id,h=>by simp only[eH,ag.lu,eI] at h|-;exact h.imp (d a id) (FA d)
theorem MO {h:List (Nat×az)}:∀id∈(ga h g d).ids,id∈d.ids:=by
 by_cases c:∃a,d=.dg a
 ·obtain⟨a,rfl⟩:=c;exactλid b=>FA (λd=>Ff) b
 grind [A8,Ff]
theorem LH {i:eU} {g B:Operand->ag} {h A:List (Nat×az)} {b:Oper} (c:hy i g h b some=some p) (o:∀a∈b.op.operands,g a=B a) (n:∀a∈b.op.operands,ef h A (g a)) (t:∀d,b.dst=some d->ak h d=ak A d) (y:∀l∈p.put,ak h l.1=ak A l.1):hy i B A b some=some p:=by
 unfold hy at c|-;rw[<-Fh (λa f=>o a (Jb a f))];split
 ·rename_i j;rw[j] at c;rw[<-EI o];grind [EJ]
 rename_i x;split at c
 ·grind
 have j:∀id∈jB i.nY (qQ b) g (ox b.op),ak h id=ak A id:=λid k=>(by obtain⟨a,f,p⟩:=yr id k;exact n a (Jb a f) id (by grind [ag.ids]));generalize jB i.nY (qQ b) g (ox b.op)=e at c j|-;have r:kF A e=kF h e:=(by unfold kF;grind);rw[r];cases s:kF h e with
 |false=>grind
 |true=>
 rw[s] at c;simp only[cond_true] at c|-;rw[uS] at c|-;obtain⟨m,q,v⟩:=bS.1 c;have z:m.put=p.put:=(by grind);have w:ai i (λa=>ga A e (B a)) (del e A) b some=some m:=by
  rw[<-EI (g:=λa=>ga h e (g a)) (λa f=>by grind [MP])];refine EJ q (λa f id k=>?_) (λd u=>?_) (λl C=>?_)
  ·rw[kc,kc,n a f id (MO id k)]
  ·rw[kc,kc,t d u]
  grind [kc]
 grind
end
section
def m5 (D:Array Oper) (a:Nat):cO:=match D[a]? with
 |some b=>(b.after.toList.filter (Region.binds .any)).map (·.on)
 |none=>[]
def ta (a:Nat):bc:=⟨some (a,.bD undef),[],[],[]⟩
def yg (ic:eU) {d:Type} (G C:cO) (a:aB) (c:Oper) (e:bc->Option d):Option d:=
 hy ic (aI a.g) a.h c λb=>bif nW G C (aI a.g) c b then e b else none
def fR (ic:eU) (D:Array Oper) (G C:Nat->cO) (e:Nat) (b:aB) (d:bc):Prop:=
 ∃a,D[e]?=some a/\((hZ D b a true/\hy ic (aI b.g) b.h a some=some d/\nW (G e) (C e) (aI b.g) a d=true)\/(hZ D b a false/\∃c,a.dst=some c/\e0 ic.n ic.pin c=true/\d=ta c))
def pn (ic:eU) {k:Type} (D:Array Oper) (G C:Nat->cO):cO->aB->(aB->Option k)->Option k
 |[],a,b=>b a
 |i::e,a,b=>match D[i]? with
  |none=>none
  |some f=>match f.guard with
   |none=>yg ic (G i) (C i) a f λj=>pn ic D G C e (j.app a) b
   |some (
    l,pZ)=>match(D[l]?).bind (·.dst),f.dst with
    |some d,some c=>match gt a.g d with
     |.val .bool m=>bif e0 ic.n ic.pin c then
      (match m==pZ with
      |true=>yg ic (G i) (C i) ⟨(d,.val .bool pZ)::a.g,a.h⟩ f λj=>pn ic D G C e (j.app ⟨(d,.val .bool pZ)::a.g,a.h⟩) b
      |false=>pn ic D G C e ⟨(c,.bD undef)::(d,.val .bool (!pZ))::a.g,a.h⟩ b) else none
     |.bD (.tuple _)=>bif e0 ic.n ic.pin c then pn ic D G C e ⟨(c,.bD undef)::a.g,a.h⟩ b else none
     |_=>none
    |_,_=>none
def ld (ic:eU) (D:Array Oper) (G C:Nat->cO):cO->aB->aB->Prop
 |[],a,b=>hJ a b
 |i::d,a,b=>∃c,fR ic D G C i a c/\ld ic D G C d (c.app a) b
theorem Km {tt:List (TypeId×af)} {id:Nat} (a:li tt k e b c (.ref id (T::j)) d some=some p):p.keep=[(id,T::j),(id,[])]/\p.S=[id]/\ak p.put id=ak e id:=by
 have n:∀{g:ag} {f:az},ak e id=some f->ak e b=none->some (bc.mk (some (b,g)) [id] [(id,T::j),(id,[])] [(b,⟨.bP,()⟩),(id,f)])=some p->p.keep=[(id,T::j),(id,[])]/\p.S=[id]/\ak p.put id=ak e id:=(by intro g f h o i;cases i;have l:¬b=id:=λp=>(by grind);exact⟨rfl,rfl,by rw[bG,ah l,bG,al rfl,h]⟩);unfold li at a;split at a
 ·rename_i q s r t m;obtain⟨ai,_,_⟩:=Ch m;cases ai;unfold tP at a;split at a
  case h_2=>cases a
  grind [Option.bind_eq_some_iff]
 unfold l0 at a;split at a
 ·cases a
 rename_i u _;simp only at a;split at a
 case h_2=>cases a
 grind [Option.bind_eq_some_iff]
theorem z7 {id:Nat} (e:oP E h=some (id,j)):∃d f c g b a,h.op=.call {callee:=.builtin .append,args:=d,argTypes:=f}/\d.toList=[c,g]/\j=b::a/\E c=.ref id (b::a):=by unfold oP at e;grind
theorem EH {ic:eU} {g:Operand->ag} {id:Nat} {b:List aO} (f:h.op=.call {callee:=.builtin .append,args:=R,argTypes:=V}) (k:R.toList=[m,w]) (o:j=T::b) (l:g m=.ref id (T::b)) (a:ai ic g e h some=some p):p.keep=[(id,j),(id,[])]/\p.S=[id]/\ak p.put id=ak e id:=by
 unfold ai at a;cases d:h.dst with
 |none=>grind
 |some c=>
  rw[d] at a;simp only at a;cases i:e0 ic.n ic.pin c with
  |false=>grind
  |true=>
  rw[i] at a;simp only[cond_true,f,k] at a;grind [Km]
theorem EL {ic:eU} {id:Nat} (x:oP E h=some (id,j)) (c:hy ic E e h some=some p):p.keep=[(id,j),(id,[])]/\ak p.put id=ak e id:=by
 obtain⟨N,L,k,O,i,f,q,r,C,o⟩:=z7 x;unfold hy at c;split at c
 ·grind [EH]
 generalize jB ic.nY (qQ h) E (ox h.op)=b at c;cases z:kF e b with
 |false=>grind
 |true=>
 rw[z] at c;simp only[cond_true] at c;rw[uS] at c;obtain⟨l,a,m⟩:=bS.1 c;cases B:l.keep.all (λs=>!bV s.1 b) with
 |false=>grind
 |true=>
 rw[B] at m;cases m;have d:ga e b (.ref id (i::f))=.ref id (i::f)\/ga e b (.ref id (i::f))=.dead:=by
  rw[A8 (by grind)];rcases ka e b (.ref id (i::f)) with⟨s,K,p,_⟩|⟨p,_⟩|⟨p,_⟩
  ·cases p
  ·grind
  grind
 rcases d with d|d
 ·obtain⟨F,_,G⟩:=EH (g:=λk=>ga e b (E k)) q r C (by show ga e b (E k)=_;rw[o];exact d) a;refine⟨F,?_⟩;show ak l.put id=_;rw[G,kc];have J:id∉b:=λI=>by
   grind [eQ,List.all_eq_true]
  grind
 exfalso;unfold ai at a;cases A:h.dst with
 |none=>grind
 |some v=>
  rw[A] at a;simp only at a;cases D:e0 ic.n ic.pin v with
  |false=>grind
  |true=>
  rw[D] at a;simp only[cond_true,q,r] at a;split at a
  case h_2=>cases a
  rename_i M P t u w H;cases w;cases y:Nat.beq t u with
  |false=>grind
  |true=>
  rw[y] at a;simp only[cond_true,o,d,li,rb,l0] at a;grind
section
variable {ic:eU} {D:Array Oper} {G C:Nat->cO}
theorem yf.ok {e:Option (Nat×ag)} {a:cK} (c:yf e a=true):∀d b,e=some (d,b)->a=some d:=by
 intro d b g;subst g;cases a with
 |none=>cases c
 |some f=>rw[dW (show Nat.beq d f=true from c)]
theorem EN {e:cO} {c:Oper} {d:bc->Option a} {f:a} (j:yg ic y e i c d=some f):∃b,hy ic (aI i.g) i.h c some=some b/\nW y e (aI i.g) c b=true/\d b=some f:=by unfold yg at j;grind [Option.bind_eq_some_iff,LF]
def jS (b:cO) (a:ag):Prop:=(∀id∈a.ids,id∈b)\/(∃id,a=.ref id []/\id+500000∈b)\/∃id c,nI a=some (id,c)/\id<500000/\id+1000000*c∈b/\∀d∈a.ids,d=id\/d∈b
theorem pw.ok (a:pw g d=true):∃id b,nI d=some (id,b)/\id<500000/\id+1000000*b∈g/\∀c∈d.ids,c=id\/c∈g:=by
 unfold pw at a;split at a
 case h_2=>cases a
 rename_i id b e;simp only[a5] at a;refine⟨id,b,e,eo a.1,eQ.1 a.2.1,λc f=>?_⟩;simp_all [dW,eQ,gE,ew]
theorem mv.ok (a:mv g d=true):∃id,d=.ref id []/\id+500000∈g:=by unfold mv at a;grind [eQ]
theorem jS.ok {c:cO} {b:ag} (a:(mw b.ids c||mv c b)=true):jS c b:=by
 rcases gE _ _▸a with a|a
 ·exact .inl (mw.ok a)
 exact .inr (.inl (mv.ok a))
theorem jS.PL (a:(mw d.ids g||(mv g d||pw g d))=true):jS g d:=by
 simp only[gE] at a;rcases a with a|a|a
 ·exact .inl (mw.ok a)
 ·exact .inr (.inl (mv.ok a))
 exact .inr (.inr (pw.ok a))
theorem E0 (a:su j=some b):1<=b:=by unfold su at a;grind
theorem La {id:Nat} (a:nI d=some (id,b)):1<=b:=by
 unfold nI at a;split at a
 ·split at a
  ·rename_i c;cases a;exact E0 c
  grind
 ·split at a
  ·rename_i c;cases a;exact E0 c
  grind
 ·grind
 grind
def Dj (e:Op) (c:cO) (b:ag):Prop:=
 (∃f d g a,e=.extract f d/\b=.dg g/\g[d]?=some a/\pH a=true/\jS c a)\/
 ((∀f d,e≠.extract f d)/\wF b=true/\jS c b/\((∀id∈b.ids,id∈c\/∃a,1<=a/\id<500000/\id+1000000*a∈c)\/sA e=true))
theorem lA.ok {h:Op} {f:cO} {e:ag} (a:lA h f e=true):Dj h f e:=by
 unfold lA at a;split at a
 ·rename_i d b;split at a
  case h_2=>cases a
  rename_i q;split at a
  case h_2=>cases a
  rename_i c o;rw[a5] at a;exact .inl ⟨d,b,q,c,rfl,rfl,o,a.1,.ok a.2⟩
 rename_i p;simp only[a5,gE] at a;refine .inr ⟨λd b i=>p d b i,a.1,?_⟩;rcases a.2 with a|⟨a,j⟩|a
 ·exact⟨.inl (mw.ok a),.inl λb g=>.inl (mw.ok a b g)⟩
 ·exact⟨.inr (.inl (mv.ok j)),.inr a⟩
 obtain⟨id,c,k,l,m,n⟩:=pw.ok a;refine⟨.inr (.inr ⟨id,c,k,l,m,n⟩),.inl λb g=>?_⟩;grind
theorem nW.ok {i b:cO} {j:Operand->ag} {g:Oper} {c:bc} (a:nW i b j g c=true):(∀d f,c.d=some (d,f)->g.dst=some d)/\(∀l∈g.op.operands,Dj g.op i (j l))/\(∀id∈c.S,id<500000/\(id∈b/\(id+500000∈b\/iQ c.keep (.ref id [])=true)\/id+1500000∈b))/\(∀h∈c.put,h.1<500000/\(h.1∈b\/h.1+1500000∈b))/\(∀d f,c.d=some (d,f)->jS i f)/\(∀e∈b,1000000<=e->∃id k,oP j g=some (id,k)/\e %1000000=id+500000/\id<500000/\y8 k (e/1000000)=true):=by
 unfold nW at a;simp only[a5] at a;obtain⟨⟨⟨⟨m,t⟩,n⟩,o⟩,u,p⟩:=a;refine⟨yf.ok m,λl y=>?_,λid q=>?_,λh s=>?_,λd f w=>?_,λe r x=>?_⟩
 ·grind [lA.ok,List.all_eq_true]
 ·have:=ew.1 n id q;simp_all [eo,eQ,a5,gE]
 ·have:=ew.1 o h s;simp_all [eo,eQ,a5,gE]
 ·grind [jS.PL]
 have:=ew.1 p e r;rw[gE] at this;rcases this with a|a
 ·have:e<1000000:=eo a;omega
 split at a
 case h_2=>cases a
 rename_i id k v;simp only[a5] at a;grind [Nat.eq_of_beq_eq_true,Nat.le_of_ble_eq_true]
def nB (d:cO) (a c:ag):Prop:=(wF a=true->jS d a->c=a)/\∀f,a=.dg f->∃g,c=.dg g/\∀(e:Nat) (b:ag),f[e]?=some b->pH b=true->jS d b->g[e]?=some b
def nB.refl (a:t=d):nB g d t:=⟨λ_ _=>a,λc b=>⟨c,by rw[a,b],λ_ _ a _ _=>a⟩⟩
theorem nB.lA {a:cO} {h:Op} {c d:ag} (e:nB a c d) (g:lA h a c=true):h1.lA h a d=true:=by
 rcases lA.ok g with⟨r,p,k,l,i,b,f,j,n⟩|⟨i,b,f,j⟩
 ·obtain⟨q,m,o⟩:=e.2 k b;grind [h1.lA]
 rw[e.1 b f];exact g
theorem LG {ic:eU} {a:List ag} (k:h.op=.extract m b) (j:hy ic E e h some=some p) (c:E m=.dg L) (f:Y m=.dg a) (g:L[b]?=some d) (i:a[b]?=some d):hy ic Y P h some=some p:=by simp_all [hO,eE,yn,ai,jB,qQ,ox,hy]
theorem LI {ic:eU} (a:sA h.op=true) (c:hy ic E e h some=some p) (d:∀b∈h.op.operands,E b=Y b):hy ic Y P h some=some p:=by
 unfold sA at a;split at a
 ·simp_all [hO,eE,ai,jB,qQ,ox,hy,Op.operands]
 grind
theorem Oq (a:.tmp b∈h.op.operands):b∈h.looksAt D:=
 lQ _ (List.mem_filterMap.2 ⟨.tmp b,by grind,rfl⟩)
theorem Ot (a:h.guard=some (l,I)) (c:(D[l]?).bind (·.dst)=some b):b∈h.looksAt D:=
 ku _ (by grind)
theorem Jf (k:∀f∈h.looksAt D,nB y (gt i.g f) (gt X.g f)) (a:hZ D i h I):hZ D X h I:=by
 unfold hZ at*;cases c:h.guard with
 |none=>grind
 |some m=>
  obtain⟨l,o⟩:=m;rw[c] at a;simp only at a|-;cases d:(D[l]?).bind (·.dst) with
  |none=>grind
  |some j=>
   rw[d] at a;simp only at a|-;have e:=k j (Ot c d);split at a
   ·rename_i p b;rw[e.1 (by rw[b];rfl) (by rw[b];exact .inl (by simp[ag.ids])),b];exact a
   ·rename_i n b;rw[e.1 (by rw[b];rfl) (by rw[b];exact .inl (by simp[ag.ids])),b];exact a
   grind
theorem fR.congr (e:fR ic D G C b i p) (l:∀c,D[b]?=some c->∀n∈c.looksAt D,nB (G b) (gt i.g n) (gt X.g n)) (v:∀c,D[b]?=some c->∀id,id∈G b\/id∈C b\/c.dst=some id->ak i.h id=ak X.h id) (cs:∀id f,1<=f->id<500000->id+1000000*f∈G b->ak i.h id=ak X.h id):fR ic D G C b X p:=by
 obtain⟨c,w,e⟩:=e;have l:=l c w;have v:=v c w;refine⟨c,w,e.imp (λ⟨r,s,k⟩=>⟨Jf l r,?_⟩) (λ⟨r,s⟩=>⟨Jf l r,s⟩)⟩;obtain⟨a4,f2,bl,f4,f5,O⟩:=nW.ok k;have m:∀a∈c.op.operands,nB (G b) (aI i.g a) (aI X.g a):=by
  intro a d;cases a with
  |tmp n=>exact l n (Oq d)
  |const ad=>exact .refl (by cases ad<;>rfl)
  |func a3=>exact .refl rfl
  |global P=>exact .refl rfl
 constructor
 ·by_cases R:∃a E,c.op=.extract a E
  ·obtain⟨a,E,T⟩:=R;have d:a∈c.op.operands:=(by grind [Op.operands]);rcases f2 a d with⟨I,F,x,f,j,q,y,bs,ce⟩|⟨j,_⟩
   ·rw[T] at j;cases j;obtain⟨d0,aq,d1⟩:=(m a d).2 x q;grind [LG]
   grind
  have z:∀a∈c.op.operands,wF (aI i.g a)=true/\jS (G b) (aI i.g a)/\((∀id∈(aI i.g a).ids,id∈G b\/∃f,1<=f/\id<500000/\id+1000000*f∈G b)\/sA c.op=true):=λa d=>by
   rcases f2 a d with⟨I,F,x,f,j,_⟩|⟨_,P⟩
   ·grind
   omega
  have u:∀a∈c.op.operands,aI i.g a=aI X.g a:=λa d=>((m a d).1 (z a d).1 (z a d).2.1).symm;by_cases cv:sA c.op=true
  ·grind [LI]
  have V:∀a∈c.op.operands,∀id∈(aI i.g a).ids,ak i.h id=ak X.h id:=λa d id co=>(by grind);refine LH s u V (λN Q=>v N (.inr (.inr Q))) (λH A=>?_);rcases(f4 H A).2 with e|e
  ·grind
  obtain⟨id,o,J,ap,av,_⟩:=O _ e U;have:=(f4 H A).1;obtain⟨am,Z,a,an,Y,aq,K,L,_,M⟩:=z7 J;grind [List.mem_singleton,pC,ag.ids]
 unfold nW at*;have:(c.op.operands.toList.all λa=>lA c.op (G b) (aI X.g a))=true:=(by simp only[a5] at k;rw[ew];intro a d;exact(m a (by grind)).lA (ew.1 k.1.1.1.2 a d));have ci:∀id o,oP (aI i.g) c=some (id,o)->oP (aI X.g) c=some (id,o):=λid o u=>by
  obtain⟨am,Z,a,an,Y,aq,K,L,a0,M⟩:=z7 u;have B:a∈c.op.operands:=(by grind [pC]);have ds:aI X.g a=aI i.g a:=by
   rcases f2 a B with⟨I,F,x,f,j,_⟩|⟨_,q,y,_⟩
   ·grind
   exact(m a B).1 q y
  grind [oP]
 have dl:Ck (C b) (aI X.g) c=true:=by
  simp only[a5] at k;have t:=k.2.2;unfold Ck at t|-;rw[ew] at t|-;intro W S;have:=t W S;rw[gE] at this|-;refine this.imp (λe=>e) (λe=>?_);split at e
  case h_2=>cases e
  grind
 grind
theorem fR.yh (g:fR ic D G C b i p) {r:Oper} (F:D[b]?=some r):(∀f c,p.d=some (f,c)->r.dst=some f)/\(∀id∈p.S,id<500000/\(id∈C b/\(id+500000∈C b\/iQ p.keep (.ref id [])=true)\/id+1500000∈C b))/\(∀k∈p.put,k.1<500000/\(k.1∈C b\/k.1+1500000∈C b))/\(∀f c,p.d=some (f,c)->jS (G b) c)/\(∀id,id<500000->id+1500000∈C b->ak (p.app i).h id=ak i.h id)/\(∀id a e,id∈p.S->id<500000->id+1000000*a+500000∈C b->1<=a->nI e=some (id,a)->(∀q∈e.ids,q=id\/q∉p.S)->hp p.S p.keep e=true):=by
 obtain⟨L,n,g⟩:=g;rw[F] at n;cases n;rcases g with⟨_,x,g⟩|⟨_,f,A,_,rfl⟩
 ·obtain⟨u,f2,v,f4,f5,w⟩:=nW.ok g;refine⟨u,v,f4,f5,λid B m=>?_,λid a e l B m K z E=>?_⟩
  ·grind [bc.oQ,EL]
  obtain⟨o,M,s,H,I,J⟩:=w _ m U;obtain rfl:o=id:=U;obtain⟨y,_⟩:=EL s x;rw[y];refine Rf ?_ z E;have:(o+1000000*a+500000)/1000000=a:=U;grind
 refine⟨λt c j=>?_,by simp[ta],by simp[ta],λt c j=>?_,λid _ _=>rfl,λid a e l=>by cases l⟩
 ·cases j;exact A
 cases j;exact .inl (by simp[ag.ids])
structure tJ (f S:cO) (keep:List (Nat×List aO)):Prop where
 a:∀id∈S,id∉f
 b:∀id∈S,id+500000∈f->iQ keep (.ref id [])=true
 c:∀id∈S,∀c v,1<=c->id<500000->id+1000000*c∈f->nI v=some (id,c)->(∀j∈v.ids,j=id\/j∉S)->hp S keep v=true
theorem yE (b:cO) (c:List (Nat×List aO)) (a:ag):di b c a=.dead\/di b c a=a:=by grind [hp,di]
theorem Bt (b:pH (di g f d)=true):di g f d=d:=by
 rcases yE g f d with a|a
 ·rw[a] at b;cases b
 omega
theorem Bs (a:∀id∈d.ids,id∉g):di g f d=d:=by grind [eQ,List.any_eq_false,zB,id,ag.dB]
theorem NC (a:∀id∈d.ids,id∉g):dJ g f d=d:=by grind [eQ,List.any_eq_false,Tw,id,ag.dB]
theorem FM (e:jS y d) (i:tJ y g f):di g f d=d:=by
 rcases e with e|⟨id,rfl,e⟩|⟨id,o,k,p,q,l⟩
 ·exact Bs λid s h=>i.a id h (e id s)
 ·by_cases h:id∈g
  ·unfold di;rw[show hp g f (.ref id [])=iQ f (.ref id []) from rfl,i.b id h e];simp
  grind [Bs,List.mem_singleton,ag.ids]
 by_cases h:id∈g
 ·unfold di;rw[i.c id h o d (La k) p q k (λn t=>(l n t).imp (λe=>e) (λe h=>i.a n h e))];simp
 exact Bs λm r u=>by
  rcases l m r with j|j
  ·grind
  exact i.a m u j
theorem vc (b:jS y d) (e:tJ y g f):dJ g f d=d:=by
 cases d with
 |dg k=>
  rcases b with b|⟨id,c,_⟩|⟨id,j,c,_⟩
  ·exact NC λid h i=>e.a id i (b id h)
  ·cases c
  cases c
 |_=>exact FM b e
theorem FL (a:cO) (d:List (Nat×List aO)) (b:cO) (e:List (Nat×List aO)) (c:ag):di a d (di b e c)=di b e (di a d c):=by grind [yE]
theorem FJ (b:∀a,d≠.dg a):dJ g f d=di g f d:=by
 cases d with
 |dg a=>grind
 |_=>rfl
theorem yD (b:cO) (d:List (Nat×List aO)) (c:cO) (e:List (Nat×List aO)) (a:ag):dJ b d (dJ c e a)=dJ c e (dJ b d a):=by
 by_cases g:∃f,a=.dg f
 ·obtain⟨f,rfl⟩:=g;simp_all [congrArg,ht,FL,qb,dJ]
 grind [yE,FJ,FL]
theorem NE (l d:cO) (e:List (Nat×List aO)) (b:ag):nB l (dJ d e b) b:=by
 by_cases j:∃a,b=.dg a
 ·obtain⟨a,rfl⟩:=j;refine⟨λc _=>?_,λr m=>⟨a,rfl,λq o p i _=>?_⟩⟩
  ·simp only[dJ] at c|-;have c:∀g∈a.map (di d e),pH g=true:=ew.1 c;congr 1;rw[ht (λg n=>Bt (c _ (c4.2 ⟨g,n,rfl⟩))),List.map_id']
  simp only[dJ,ag.dg.injEq] at m;grind [Bt,Option.map_eq_some_iff]
 have i:∀a,b≠.dg a:=λa f=>j ⟨a,f⟩;rw[FJ i];have h:∀a,di d e b≠.dg a:=λa f=>(by grind [yE]);refine⟨λc _=>?_,λa f=>absurd f (h a)⟩;have:pH (di d e b)=true:=by
  generalize di d e b=k at c h;cases k with
  |dg a=>grind
  |_=>exact c
 grind [Bt]
theorem NF (a:ag) (d:tJ y g f):nB y a (dJ g f a):=by refine⟨λ_ c=>vc c d,λk b=>?_⟩;subst b;refine⟨_,rfl,λj e h _ i=>?_⟩;grind [FM]
def DQ (e:∀a c,p.d=some (a,c)->a≠b):gt (p.app i).g b=dJ p.S p.keep (gt i.g b):=by
 rw[bc.qn];cases f:p.d with
 |none=>rfl
 |some h=>obtain⟨a,c⟩:=h;simp only;rw[ah (e a c f)]
def N1 {c:List (Nat×a)} {id:Nat} (d:∀b∈c,b.1≠id):ak c id=none:=by
 induction c with
 |nil=>rfl
 |cons b c f=>
  obtain⟨g,h⟩:=b;rw[bG,ah (d (g,h) ab),f (λb e=>d b (by simp[e]))]
def DR {id:Nat} (a:id∉p.S) (b:∀c∈p.put,c.1≠id):ak (p.app i).h id=ak i.h id:=by rw[bc.oQ,ah a,N1 b];rfl
def o9 (b c:cO):Bool:=b.all λa=>!(bV a c)
theorem o9.ok (b:o9 g y=true):∀a∈g,a∉y:=λa c d=>by have:=ew.1 b a c;rw[eQ.2 d] at this;cases this
def dl (b:Oper):cO:=match b.dst with
 |some a=>[a]
 |none=>[]
def sM (a:h.dst=some b):b∈dl h:=by unfold dl;rw[a];simp
def pa (b c:cO):Bool:=b.all λa=>Nat.ble 1000000 a||!(bV a c)
theorem pa.ok (a:pa g y=true):∀b∈g,b<1000000->b∉y:=λb c e d=>by
 have:=ew.1 a b c;rw[eQ.2 d,gE] at this;rcases this with a|a
 ·have:=eo a;omega
 cases a
def nZ (e d f b:cO):Bool:=(b.all λa=>Nat.blt a 1000000||(!(bV (a %1000000-500000) e)&&(!(bV (a %1000000-500000) d)&&!(bV (a %1000000-500000) f))))&&d.all λc=>Nat.blt c 1000000||(!(bV (c %1000000) b)&&(!(bV (c %1000000+1500000) b)||bV (c+500000) b))
theorem nZ.ok {d i:cO} (a:nZ d y i g=true):(∀id,id<500000->id+1500000∈g->id∉d/\id∉y/\id∉i)/\∀id b,1<=b->id<500000->id+1000000*b∈y->id∉g/\(id+1500000∈g->id+1000000*b+500000∈g):=by
 unfold nZ at a;rw[a5] at a;have e:∀{f:Nat} {h:cO},(!(bV f h))=true->f∉h:=λ{f h} a c=>(by rw[eQ.2 c] at a;cases a);constructor
 ·intro id k c;have:=ew.1 a.1 _ c;rw[gE] at this;rcases this with a|a
  ·have:id+1500000<1000000:=eo a;omega
  rw[(U:(id+1500000) %1000000-500000=id)] at a;simp only[a5] at a;exact⟨e a.1,e a.2.1,e a.2.2⟩
 intro id b l k c;have:=ew.1 a.2 _ c;rw[gE] at this;rcases this with a|a
 ·have:id+1000000*b<1000000:=eo a;omega
 rw[(U:(id+1000000*b) %1000000=id)] at a;simp only[a5,gE] at a;refine⟨e a.1,λj=>?_⟩;rcases a.2 with a|a
 ·exact absurd j (e a)
 exact eQ.1 a
def qv (D:Array Oper) (G C:Nat->cO) (a b:Nat):Bool:=
 match D[a]?,D[b]? with
 |some d,some c=>d.apart D c&&pa (C b) (dl d++(G a++C a))&&pa (C a) (dl c++G b)&&(nZ (dl d) (G a) (C a) (C b)&&nZ (dl c) (G b) (C b) (C a))
 |_,_=>false
def fR.sH (a:fR ic D G C b i p) {id:Nat} (m:500000<=id):ak (p.app i).h id=ak i.h id:=by obtain⟨k,c,j⟩:=a;have a:fR ic D G C b i p:=⟨k,c,j⟩;obtain⟨_,d,e,_⟩:=a.yh c;exact DR (λf=>by have:=(d id f).1;omega) (λl g p=>by have:=(e l g).1;omega)
def fR.pz (d:fR ic D G C b i p) {id:Nat} (e:id∉C b):ak (p.app i).h id=ak i.h id:=by
 obtain⟨o,f,n⟩:=d;have d:fR ic D G C b i p:=⟨o,f,n⟩;obtain⟨_,g,j,_,k,_⟩:=d.yh f;by_cases c:id<500000/\id+1500000∈C b
 ·exact k id c.1 c.2
 refine DR (λl=>?_) (λq m p=>?_)
 ·obtain⟨aq,a⟩:=g id l;rcases a with a|a
  ·exact e a.1
  exact c ⟨aq,a⟩
 subst p;obtain⟨aq,a⟩:=j q m;rcases a with a|a
 ·exact e a
 exact c ⟨aq,a⟩
theorem fR.swap {e:bc} (m:qv D G C l b=true) (o:fR ic D G C l i e) (B:fR ic D G C b (e.app i) p):fR ic D G C b i p/\fR ic D G C l (p.app i) e/\hJ (p.app (e.app i)) (e.app (p.app i)):=by
 unfold qv at m;split at m
 case h_2=>cases m
 rename_i ap an ad Z;simp only[a5] at m;obtain⟨⟨⟨cv,J⟩,K⟩,d0,d1⟩:=m;have J:=pa.ok J;have K:=pa.ok K;obtain⟨co,V⟩:=nZ.ok d0;obtain⟨cs,W⟩:=nZ.ok d1;obtain⟨bl,bs,ce⟩:=Oper.apart_spec cv;obtain⟨a3,T,eq,ex,fn,a4⟩:=o.yh ad;obtain⟨i1,N,d5,d6,d7,am⟩:=B.yh Z;have d9:∀q∈an.looksAt D,gt (e.app i).g q=dJ e.S e.keep (gt i.g q):=λq A=>DQ λj w z y=>bl j (a3 j w z) (y▸A);have d8:∀q∈ap.looksAt D,gt (p.app i).g q=dJ p.S p.keep (gt i.g q):=λq A=>DQ λj w z y=>ce j (i1 j w z) (y▸A);have L:∀j H t I,p.d=some (j,H)->e.d=some (t,I)->j≠t:=λj H t I z dl y=>bs t (a3 t I dl) (y▸i1 j H z);have E:∀id,id<1000000->id∈G l\/id∈C l\/ap.dst=some id->id∉C b:=λid h c s=>J id s h (by
  rcases c with c|c|c
  ·simp[c]
  ·simp[c]
  simp[sM c])
 have a0:∀id,id<1000000->id∈G b\/an.dst=some id->id∉C l:=λid h c s=>K id s h (by
  rcases c with c|c
  ·simp[c]
  simp[sM c])
 have d4:∀id,id<1000000->id∈C b->id∉C l:=λid h c s=>E id h (.inr (.inl s)) c;have em:tJ (G b) e.S e.keep:=by
  refine⟨λid k f=>?_,λid k f=>?_,λid k r R m n f M x=>?_⟩
  ·obtain⟨aq,a⟩:=T id k;rcases a with a|a
   ·exact a0 id U (.inl f) a.1
   exact(cs id aq a).2.1 f
  ·obtain⟨aq,a⟩:=T id k;rcases a with a|a
   ·exact a.2.resolve_left (a0 _ U (.inl f))
   exact a4 id 1 (.ref id []) k aq (by rw[(U:id+1000000*1+500000=id+1500000)];exact a) (a2 _) rfl (λd2 x=>.inl (by simpa[ag.ids] using x))
  obtain⟨_,a⟩:=T id k;obtain⟨av,Q⟩:=W id r m n f;rcases a with a|a
  ·exact absurd a.1 av
  exact a4 id r R k n (Q a) m M x
 have el:tJ (G l) p.S p.keep:=by
  refine⟨λid k f=>?_,λid k f=>?_,λid k r R m n f M x=>?_⟩
  ·obtain⟨aq,a⟩:=N id k;rcases a with a|a
   ·exact E id U (.inl f) a.1
   exact(co id aq a).2.1 f
  ·obtain⟨aq,a⟩:=N id k;rcases a with a|a
   ·exact a.2.resolve_left (E _ U (.inl f))
   exact am id 1 (.ref id []) k aq (by rw[(U:id+1000000*1+500000=id+1500000)];exact a) (a2 _) rfl (λd2 x=>.inl (by grind [ag.ids]))
  obtain⟨_,a⟩:=N id k;obtain⟨av,Q⟩:=V id r m n f;rcases a with a|a
  ·grind
  exact am id r R k n (Q a) m M x
 have v:fR ic D G C b i p:=by
  refine B.congr (λO u q A=>?_) (λO u id n=>?_) (λid r m n f=>?_)
  ·grind [NE]
  ·rw[Z] at u;cases u;rcases bj id 500000 with h|h
   ·refine o.pz ?_;rcases n with c|c|c
    ·grind
    ·grind
    grind
   exact o.sH h
  exact o.pz (W id r m n f).1
 have F:fR ic D G C l (p.app i) e:=by
  refine o.congr (λO u q A=>?_) (λO u id n=>?_) (λid r m n f=>?_)
  ·grind [NF]
  ·rw[ad] at u;cases u;rcases bj id 500000 with h|h
   ·exact(v.pz (E id U n)).symm
   exact(v.sH h).symm
  exact(v.pz (V id r m n f).1).symm
 refine⟨v,F,?_,λid=>?_⟩
 ·intro q;rw[bc.qn p,bc.qn e (p.app i),bc.qn e i,bc.qn p i];cases ds:e.d with
  |none=>
   cases X:p.d with
   |none=>grind [yD]
   |some P=>
    obtain⟨j,w⟩:=P;simp only;split
    ·grind [vc]
    grind [yD]
  |some d3=>
   obtain⟨t,ci⟩:=d3;cases X:p.d with
   |none=>
    simp only;split
    ·grind [vc]
    grind [yD]
   |some P=>
    obtain⟨j,w⟩:=P;have L:j≠t:=L j w t ci X ds;simp only;by_cases o:j=q
    ·subst o;rw[al rfl,ah (Ne.symm L),al rfl];grind [vc]
    rw[ah o,ah o];split
    ·grind [vc]
    grind [yD]
 rcases bj id 500000 with h|h
 ·by_cases s:id∈C b
  ·have Y:=d4 id U s;rw[F.pz Y,bc.oQ p,bc.oQ p,o.pz Y]
  rw[B.pz s,bc.oQ e,bc.oQ e,v.pz s]
 rw[B.sH h,o.sH h,F.sH h,v.sH h]
def fR.seq (a:hJ i X) (c:fR ic D G C b i p):fR ic D G C b X p:=
 c.congr (λ_ _ d _=>.refl (a.g d).symm) (λ_ _ id _=>a.h id) (λid _ _ _ _=>a.h id)
def ld.seq:∀{c:cO} {d e f:aB},hJ d e->ld ic D G C c d f->ld ic D G C c e f
 |[],_,_,_,a,h=>a.symm.trans h
 |_::_,_,_,_,a,⟨b,g,i⟩=>⟨b,g.seq a,ld.seq (a.app b) i⟩
theorem ld.front {g:Nat} {h:cO}:∀{b:cO} {a d:aB},(∀x∈b,qv D G C x g=true)->ld ic D G C (b++g::h) a d->∃c,fR ic D G C g a c/\ld ic D G C (b++h) (c.app a) d
 |[],a,d,_,⟨c,e,f⟩=>⟨c,e,f⟩
 |x::b,a,d,i,⟨k,e,f⟩=>by obtain⟨j,o,p⟩:=ld.front (λq r=>i q (by grind)) f;obtain⟨l,m,n⟩:=fR.swap (i x ab) e o;exact⟨j,l,k,m,p.seq n⟩
end
end
section
section
variable {ic:eU} {F:Array Oper} {fS fm:Nat->cO}
def u6 {E:Type} {B:aB->Option E} {D:E}:∀{z:cO} {b:aB},pn ic F fS fm z b B=some D->∃c,ld ic F fS fm z b c/\B c=some D
 |[],b,a=>⟨b,hJ.refl b,a⟩
 |i::z,b,a=>by
  simp only[pn] at a;split at a
  ·cases a
  rename_i s r;split at a
  ·rename_i o;obtain⟨f,v,w,x⟩:=EN a;obtain⟨c,k,l⟩:=u6 x;exact⟨c,⟨f,⟨s,r,.inl ⟨by unfold hZ;rw[o],v,w⟩⟩,k⟩,l⟩
  rename_i J A o;split at a
  case h_2=>cases a
  rename_i q e y C;split at a
  case h_3=>cases a
  case h_2=>
   rename_i K p;cases j:e0 ic.n ic.pin e with
   |false=>rw[j] at a;cases a
   |true=>
   rw[j] at a;obtain⟨c,k,l⟩:=u6 a;refine⟨c,⟨ta e,⟨s,r,.inr ⟨?_,e,C,j,rfl⟩⟩,k⟩,l⟩;unfold hZ;rw[o];simp only[y,p]
  rename_i d p;cases j:e0 ic.n ic.pin e with
  |false=>rw[j] at a;cases a
  |true=>
  rw[j] at a;simp only[cond_true] at a;have t:∀u,d=u->hJ ⟨(q,.val .bool u)::b.g,b.h⟩ b:=λu m=>⟨λI=>by
   show gt ((q,_)::b.g) I=_;rw[gw];split
   ·rename_i f;rw[<-f,p,m]
   rfl,λ_=>rfl⟩
  split at a
  ·rename_i m;obtain rfl:d=A:=(by simpa using m);obtain⟨f,v,w,x⟩:=EN a;obtain⟨c,k,l⟩:=u6 x;have G:fR ic F fS fm i ⟨(q,.val .bool d)::b.g,b.h⟩ f:=by
    refine⟨s,r,.inl ⟨?_,v,w⟩⟩;unfold hZ;rw[o];simp only[y,(t d rfl).g q,p];simp
   exact⟨c,⟨f,G.seq (t d rfl),k.seq ((t d rfl).app f)⟩,l⟩
  rename_i m;have H:d=!A:=by cases d<;>cases A<;>first|rfl|cases m
  obtain⟨c,k,l⟩:=u6 a;refine⟨c,⟨ta e,⟨s,r,.inr ⟨?_,e,C,j,rfl⟩⟩,k.seq ((t _ H).app (ta e))⟩,l⟩;unfold hZ;rw[o];simp only[y,p];exact m
structure i5 where
 i:Nat
 d:cO
 ak:cO
 ps:cO
 fS:cO
 fm:cO
def pe:cO->cO->Bool
 |[],[]=>true
 |a::c,b::d=>Nat.beq a b&&pe c d
 |_,_=>false
def mT:∀{c d:cO},pe c d=true->c=d
 |[],[],_=>rfl
 |a::c,e::d,b=>by simp only[pe,a5] at b;rw[dW b.1,mT b.2]
 |[],_::_,b=>by cases b
 |_::_,[],b=>by cases b
def na (F:Array Oper) (fS fm:Nat->cO) (a:i5):Bool:=match F[a.i]? with
 |some b=>pe (dl b) a.d&&pe (b.looksAt F) a.ak&&pe (m5 F a.i) a.ps&&pe (fS a.i) a.fS&&pe (fm a.i) a.fm
 |none=>false
def An (a b:i5):Bool:=o9 a.d b.ak&&o9 a.d b.d&&o9 b.d a.ak&&pa b.fm (a.d++(a.fS++a.fm))&&pa a.fm (b.d++b.fS)&&(nZ a.d a.fS a.fm b.fm&&nZ b.d b.fS b.fm a.fm)
def Lg {l j:i5} (b:na F fS fm l=true) (a:na F fS fm j=true) (d:An l j=true):qv F fS fm l.i j.i=true:=by
 unfold na at b a;split at b
 case h_2=>cases b
 rename_i y s;split at a
 case h_2=>cases a
 rename_i x r;simp only[a5] at b a;obtain⟨⟨⟨⟨z,A⟩,E⟩,B⟩,C⟩:=b;obtain⟨⟨⟨⟨i1,t⟩,D⟩,u⟩,v⟩:=a;unfold An at d;rw[<-mT z,<-mT A,<-mT B,<-mT C,<-mT i1,<-mT t,<-mT u,<-mT v] at d;simp only[a5] at d;obtain⟨⟨⟨⟨⟨f,g⟩,h⟩,n⟩,o⟩,p,q⟩:=d;unfold qv;simp only[s,r,n,o,p,q,Bool.and_true];have f:=o9.ok f;have g:=o9.ok g;have h:=o9.ok h;unfold Oper.apart;rw[a5];constructor
 ·cases e:y.dst with
  |none=>rfl
  |some c=>
   have k:=f c (sM e);have w:=g c (sM e);simp only[a5,Bool.not_eq_true'];refine⟨?_,?_⟩
   ·rw[<-Bool.not_eq_true,List.contains_iff_mem];exact k
   rw[bne_iff_ne];intro m;exact w (sM m)
 cases e:x.dst with
 |none=>rfl
 |some c=>
  have k:=h c (sM e);simp only[Bool.not_eq_true'];rw[<-Bool.not_eq_true,List.contains_iff_mem];exact k
def iH (a b:Nat):Bool:=Nat.beq (Nat.land (Nat.shiftRight a b) 1) 1
def z1 (a b:Nat):Nat:=Nat.lor a (Nat.shiftLeft 1 b)
def rZ:iH b l=true↔b.testBit l=true:=by
 unfold iH;rw[Nat.testBit_eq_decide_div_mod_eq];show Nat.beq ((b>>>l)&&&1) 1=true↔_;rw[Nat.shiftRight_eq_div_pow,Nat.and_one_is_mod];constructor
 ·intro a;exact decide_eq_true (dW a)
 intro a;rw[of_decide_eq_true a];rfl
def Eb (a:iH (Nat.lor l W) b=true):iH l b=true\/iH W b=true:=by rw[rZ] at a|-;rw[rZ];have:(l|||W).testBit b=true:=a;rw[Nat.testBit_or] at this;simpa using this
def Ea (a:iH (z1 W l) b=true):iH W b=true\/b=l:=by
 rcases Eb a with a|a
 ·exact .inl a
 right;rw[rZ] at a;have:(1<<<l).testBit b=true:=a;rw[Nat.shiftLeft_eq,fG,wm] at this;have:=of_decide_eq_true this;omega
def wL (a:iH 0 b=true):False:=by rw[rZ] at a;simp at a
def tO (a:cQ):cO->Nat
 |[]=>0
 |p::b=>Nat.lor (z1 ((h1.ak a p).getD 0) p) (tO a b)
def DI {e:cQ}:∀{d:cO} {b:Nat},iH (tO e d) b=true->∃p∈d,b=p\/∃c,h1.ak e p=some c/\iH c b=true
 |[],_,a=>(wL a).elim
 |p::d,b,a=>by
  rcases Eb a with a|a
  ·refine⟨p,ab,?_⟩;rcases Ea a with a|a
   ·cases f:h1.ak e p with
    |none=>rw[f] at a;exact(wL a).elim
    |some c=>rw[f] at a;exact .inr ⟨c,rfl,a⟩
   exact .inl a
  obtain⟨i,h,g⟩:=DI a;exact⟨i,by simp[h],g⟩
def wP (c:Nat):Nat->List i5->cQ->List i5->Bool
 |_,_,_,[]=>true
 |dV,d,b,a::f=>
  a.ps.all (λg=>iH dV g)&&(d.all λe=>iH (tO b a.ps) e.i||An e a)&&!(iH dV a.i)&&Nat.blt a.i c&&wP c (z1 dV a.i) (a::d) ((a.i,tO b a.ps)::b) f
def ir (a:List i5):cO:=a.map (·.i)
def qs (F:Array Oper) (fS fm:Nat->cO) (a:List i5):Bool:=a.all (na F fS fm)&&wP F.size 0 [] [] a&&((List.range F.size).all λb=>bV b (ir a))&&Nat.ble a.length F.size
def we (F:Array Oper) (a:Nat->Prop):Prop:=∀b,a b->∀c∈m5 F b,a c
def na.ps {b:i5} (a:na F fS fm b=true):m5 F b.i=b.ps:=by
 unfold na at a;split at a
 case h_2=>cases a
 simp only[a5] at a;exact mT a.1.1.2
def Ag:∀{t m:List i5} {o:Nat} {v:cQ},wP F.size o m v t=true->(∀r∈t,na F fS fm r=true)->(∀r∈m,na F fS fm r=true)->(∀l,iH o l=true->l∈ir m)->(∀l∈ir m,iH o l=true)->(∀e u,h1.ak v e=some u->∀c,we F c->c e->∀b,iH u b=true->c b)->∀g h p,ir t=g++h::p->(∀e∈m5 F h,e∈ir m\/e∈g)/\(∀c,we F c->(∀e∈m5 F h,c e)->∀b,(b∈ir m\/b∈g)->¬c b->qv F fS fm b h=true)/\h∉ir m/\h∉g/\h<F.size
 |[],_,_,_,w,_,_,_,_,A,g,h,p,n=>by cases g<;>cases n
 |r::t,m,o,v,w,E,G,d,C,A,g,h,p,n=>by
  simp only[wP,a5,ew,Bool.not_eq_true'] at w;obtain⟨⟨⟨⟨P,Q⟩,q⟩,R⟩,S⟩:=w;have z:=E r ab;have y:=na.ps z;have q:r.i∉ir m:=λk=>(by rw[C _ k] at q;cases q);have H:∀c,we F c->(∀e∈m5 F r.i,c e)->∀b,iH (tO v r.ps) b=true->c b:=by
   intro c j f b a;obtain⟨e,D,rfl|⟨U,T,a⟩⟩:=DI a
   ·exact f _ (y▸D)
   exact A e U T c j (f e (y▸D)) b a
  cases g with
  |nil=>
   cases n;refine⟨λe f=>.inl (d _ (P e (y▸f))),λc j f b a x=>?_,q,ab,eo R⟩;rcases a with a|a
   ·obtain⟨J,I,rfl⟩:=c4.1 a;have:=Q J I;rcases gE _ _▸this with d|d
    ·exact absurd (H c j f _ d) x
    exact Lg (G J I) z d
   cases a
  |cons V g=>
   simp only[ir,eH,h3,fd] at n;obtain⟨rfl,n⟩:=n;obtain⟨L,M,B,N,O⟩:=Ag S (λb a=>E b (by simp[a])) (λb a=>by
    rcases dk.1 a with rfl|a
    ·exact z
    ·exact G b a) (λl k=>by
    rcases Ea k with k|rfl
    ·exact eJ _ (d l k)
    ·exact lR ..) (λl k=>by
    rw[rZ];show(o|||(1<<<r.i)).testBit l=true;rw[Nat.testBit_or,gE];rcases dk.1 k with rfl|k
    ·right;rw[Nat.shiftLeft_eq,fG,wm];simp
    ·left;exact rZ.1 (C l k)) (λe u s c j f b a=>by
    rw[bG] at s;split at s
    ·rename_i K;cases s;subst K;exact H c j (j _ f) b a
    exact A e u s c j f b a) g h p n
   refine⟨λe f=>?_,λc j f b a x=>M c j f b ?_ x,λd=>B (eJ _ d),λd=>?_,O⟩
   ·rcases L e f with d|d
    ·rcases dk.1 d with rfl|d
     ·exact .inr ab
     exact .inl d
    exact .inr (by simp[d])
   ·rcases a with a|a
    ·exact .inl (eJ _ a)
    rcases dk.1 a with rfl|a
    ·exact .inl (lR ..)
    exact .inr a
   rcases dk.1 d with rfl|d
   ·exact B (lR ..)
   exact N d
variable {E:dz} {C:c8}
def fR.wp (k:ic.ac E C) (e:fR ic F fS fm b i p) {c:Act} (j:ez C i c.tmps v) {next:Act->World->Prop} (l:∀a d,a.defers=c.defers->ez C (p.app i) a.tmps d->next a d):wpOp E.P F o b next c v:=by
 obtain⟨z,s,e⟩:=e;obtain⟨m,w,n,f⟩:=id j;unfold wpOp;simp only[s];rcases e with⟨h,q,_⟩|⟨h,x,g,u,rfl⟩
 ·rw[h.ok f,al rfl];refine .inl (EM k q c v j _ _ ?_);rintro A a d ⟨y,r,rfl⟩ g t;cases r;exact l a d g t
 rw[h.ok f,ah ab,g];exact l _ v rfl ⟨m,w,n,f.put (e0.ok k u) (.bD undef)⟩
def left (a:cO) (c:Array Bool):cO:=a.filter λb=>!c.getD b true
def FSq {d:Array Bool} {e:cO} (f:left g d=y++b::e) (h:b∉y) (i:b∉e) (j:b<d.size):left g (d.setIfInBounds b true)=y++e:=by
 have:left g (d.setIfInBounds b true)=(left g d).filter λc=>!(c==b):=by
  unfold left;rw[List.filter_filter];refine List.filter_congr λc _=>?_;by_cases a:b=c
  ·subst a;have:(d.setIfInBounds b true).getD b true=true:=(by simp[Array.getD,j]);rw[this];simp
  rw[getD_set_ne true a];have:(c==b)=false:=(by simp;omega);rw[this];simp
 rw[this,f,nw,tx ab];congr 1
 ·exact lN.2 λc a=>by simp;rintro rfl;exact h a
 exact lN.2 λc a=>by simp;rintro rfl;exact i a
def Cn (f:F[b]?=some h):l∈m5 F b↔∃a∈h.after,Region.binds .any a=true/\a.on=l:=by
 unfold m5;rw[f];simp only[c4,gp,Array.mem_toList_iff];constructor
 ·rintro⟨a,⟨c,d⟩,e⟩;exact⟨a,c,d,e⟩
 rintro⟨a,c,d,e⟩;exact⟨a,⟨c,d⟩,e⟩
def Kk (fs:ic.ac E C) {Z:List i5} (em:g=ir Z) (B:qs F fS fm Z=true) {t:aB} {ds:List Deferred} (av:∀e j,e.defers=ds->ez C t e.tmps j->o .normal e j):∀(y:Nat) (a:Array Bool) (e:Act) (j:World) (K:aB),a.size=F.size->(left g a).length<=y->we F (λd=>a.getD d true=true/\d<F.size)->ld ic F fS fm (left g a) K t->ez C K e.tmps j->e.defers=ds->wpAny E.P .any F o y a e j:=by
 unfold qs at B;simp only[a5,ew,ha] at B;obtain⟨⟨⟨f0,B⟩,a0⟩,_⟩:=B;have L:=Ag B f0 ab (λd a4=>(wL a4).elim) (by simp[ir]) (λQ f8 b=>by cases b);rw[<-em] at L a0;have Y:∀i,i<F.size->i∈g:=λi G=>eQ.1 (a0 i G);have d7:∀{a:Array Bool} {d:Nat},a.size=F.size->d<F.size->a.getD d true=true->a.getD d false=true:=(by intro a d f a4 b;have:d<a.size:=U;simpa[Array.getD,this] using b);have cs:∀{a:Array Bool} {i:Nat},a.size=F.size->i∈Region.ready .any F a->i<F.size/\a.getD i true=false/\∃h,F[i]?=some h/\∀c∈h.after,Region.binds .any c=true->a.getD c.on false=true:=(by intro a i f G;obtain⟨u,h,l,n⟩:=mem_ready.1 G;exact⟨(lK.1 l).1,u,h,l,n⟩);have first:∀{a:Array Bool} {i:Nat} {S:cO},a.size=F.size->left g a=i::S->i∈Region.ready .any F a:=by
  intro a i S f H;have J:i∈left g a:=(by rw[H];simp);have fp:i∈g:=(gp.1 J).1;have f2:a.getD i true=false:=(by simpa using(gp.1 J).2);obtain⟨k,s,p⟩:=tw fp;obtain⟨d4,_,_,z,d6⟩:=L k i s p;obtain⟨h,l⟩:∃h,F[i]?=some h:=⟨_,tl d6⟩;refine mem_ready.2 ⟨f2,h,l,λc q D=>?_⟩;have w:c.on∈m5 F i:=(Cn l).2 ⟨c,q,D,rfl⟩;have an:c.on∈k:=by
   rcases d4 _ w with b|b
   ·cases b
   exact b
  have fT:∀m∈k,a.getD m true=true:=by
   intro m x;cases f3:a.getD m true with
   |true=>rfl
   |false=>
    obtain⟨R,dl,ap⟩:=tw x;have:left g a=left R a++m::(left dl a++left (i::s) a):=(by show List.filter _ g=_;rw[p,ap];simp only[left,nw,k8,f3,k6,h3];rfl);rw[H] at this;cases T:left R a with
    |nil=>rw[T] at this;cases this;exact absurd x z
    |cons f9 f6=>
     rw[T] at this;cases this;have:i∈left R a:=(by rw[T];simp);exact absurd (by rw[ap];exact lQ _ (gp.1 this).1) z
  have I:c.on<F.size:=(by have:c.on∈g:=(by rw[p];exact lQ _ an);obtain⟨cv,d0,d8⟩:=tw this;exact(L cv c.on d0 d8).2.2.2.2);exact d7 f I (fT _ an)
 intro y
 induction y with
 |zero=>
  intro a e j K f W V r M N;have ce:left g a=[]:=List.length_eq_zero_iff.1 U;rw[ce] at r;refine⟨?_,av e j N (M.seq r)⟩;cases X:Region.ready .any F a with
  |nil=>rfl
  |cons i f6=>
   obtain⟨u,n,_⟩:=cs f (i:=i) (by rw[X];simp);have:i∈left g a:=gp.2 ⟨Y i u,by rw[n];rfl⟩;rw[ce] at this;cases this
 |succ y f5=>
  intro a e j K f W V r M N;constructor
  ·intro X;cases H:left g a with
   |nil=>rw[H] at r;exact av e j N (M.seq r)
   |cons i S=>
    have:=first f H
    rw[X] at this;cases this
  intro i G;obtain⟨u,n,h,l,am⟩:=cs f G;have J:i∈left g a:=gp.2 ⟨Y i u,by rw[n];rfl⟩;obtain⟨k,s,p⟩:=tw (Y i u);obtain⟨_,d5,_,z,_⟩:=L k i s p;have a3:i∉s:=(by intro J;obtain⟨d1,d2,el⟩:=tw J;have:=(L (k++i::d1) i d2 (by rw[p,el];simp)).2.2.2.1;exact this ab);have O:left g a=left k a++i::left s a:=(by show List.filter _ g=_;rw[p];simp only[left,nw,k8,n];rfl);have ex:∀m∈left k a,qv F fS fm m i=true:=by
   intro m x;obtain⟨f4,co⟩:=gp.1 x;refine d5 _ V (λQ w=>?_) m (.inr f4) (λx=>by rw[x.1] at co;cases co);obtain⟨c,q,D,rfl⟩:=(Cn l).1 w;have A:=am c q D;have I:c.on<a.size:=by
    cases bj c.on a.size with
    |inl b=>exact b
    |inr b=>simp[Array.getD,Nat.not_lt.2 b] at A
   refine⟨?_,U⟩;simpa[Array.getD,I] using A
  rw[O] at r;obtain⟨c,q,f1⟩:=ld.front ex r;refine q.wp fs M (λd3 f7 fn eq=>f5 _ d3 f7 (c.app K) (by simp[f]) ?_ ?_ ?_ eq (fn.trans N))
  ·rw[FSq O (λb=>z (gp.1 b).1) (λb=>a3 (gp.1 b).1) U];rw[O] at W;simp at W|-;omega
  ·intro d ⟨bl,ft⟩ Q w;by_cases bs:i=d
   ·subst bs;obtain⟨c,q,D,rfl⟩:=(Cn l).1 w;have A:=am c q D;have I:c.on<a.size:=by
     cases bj c.on a.size with
     |inl b=>exact b
     |inr b=>simp[Array.getD,Nat.not_lt.2 b] at A
    have v:=getD_set_true (i:=i) A;refine⟨?_,U⟩;have fz:c.on<(a.setIfInBounds i true).size:=(by simpa using I);have ai:∀ad,(a.setIfInBounds i true).getD c.on ad=(a.setIfInBounds i true)[c.on]:=λad=>(by simp only[Array.getD,fz,dif_pos];rfl);rw[ai] at v|-;exact v
   rw[getD_set_ne true bs] at bl;obtain⟨v,d9⟩:=V d ⟨bl,ft⟩ Q w;refine⟨?_,d9⟩;by_cases ci:i=Q
   ·subst ci;rw[n] at v;cases v
   rw[getD_set_ne true ci];exact v
  rw[FSq O (λb=>z (gp.1 b).1) (λb=>a3 (gp.1 b).1) U];exact f1
def J.draw (H:E.P.follows .mixedOrders=true) (A:ic.ac E C) {g:aB->Option a} {k:a} {id:Nat} {c:List i5} {h:Exit->aB->Prop} (b:qs F fS fm c=true) (e:pn ic F fS fm (ir c) i g=some k) (v:∀l,g l=some k->h .normal l):J E C (.region id F true) i h:=by
 obtain⟨d,r,s⟩:=u6 e;intro p N f x;refine wp_region_any H ?_;have j:left (ir c) (Array.replicate F.size false)=ir c:=(by refine lN.2 λK z=>?_;unfold qs at b;simp only[a5,ew] at b;obtain⟨m,n,u⟩:=tw z;have:=(Ag b.1.1.2 b.1.1.1 ab (λL B=>(wL B).elim) (by simp[ir]) (λQ R e=>by cases e) m K n u).2.2.2.2;simp[Array.getD,this]);have I:(ir c).length<=F.size:=(by unfold qs at b;simp only[a5] at b;rw[ir,gR];exact eo b.2);refine Kk A rfl b (t:=d) (ds:=[]) (λO S y w=>⟨d,v d s,w,y⟩) F.size _ p _ i ab (by rw[j];exact I) ?_ (by rw[j];exact r) ?_ x
 ·intro L ⟨D,G⟩;simp[Array.getD,G] at D
 obtain⟨o,M,q,f⟩:=f;exact⟨o,M,q,f.M5 (fu.refl N).drew⟩
end
end
section
inductive zL where
 |none
 |x (l:cO) (vU:kx)
 |rr (l:cO) (vU:kx)
inductive zM where
 |r
 |x (id:Nat) (vU:kx)
 |rr (id:Nat) (vU:kx)
inductive jP where
 |leaf
 |one (a:jP)
 |two (j:zL) (a b:jP)
 |loop (vU:kx) (m:zM) (a:jP)
 |keep (l:cO) (a:jP)
 |nY (F:cO) (a:jP)
 |draw (L:List i5)
def yv:List i5->Nat->cO
 |[],_=>[]
 |r::b,a=>bif Nat.beq r.i a then r.fS else yv b a
def yT:List i5->Nat->cO
 |[],_=>[]
 |r::b,a=>bif Nat.beq r.i a then r.fm else yT b a
def Ek {A:Type} (id:Nat) (b:Exit->aB->Option A):Exit->aB->Option A
 |.exit c,a=>match Nat.beq c id with
  |true=>b .normal a
  |false=>b (.exit c) a
 |e,a=>b e a
def Ny {a:Type} (c:aB->Option a):Exit->aB->Option a
 |.normal,b=>c b
 |_,_=>none
def Nz {b A:Type} (d:aB->Option b) (c:Exit->aB->Option A):Exit->aB->Option (b⊕A)
 |.normal,a=>(d a).map .inl
 |e,a=>(c e a).map .inr
def vR {A:Type} (c:aB->Option A) (b:Exit->aB->Option A):Exit->aB->Option A
 |.normal,a=>c a
 |e,a=>b e a
def Ob {b A:Type} (d:aB->Option b) (c:Exit->aB->Option A):Exit->aB->Option (b⊕A)
 |.normal,a=>(d a).map .inl
 |e,a=>(c e a).map .inr
def F3 {b c:Type} (e:aB->Option b) (id:Nat) (f:aB->Option c):Exit->aB->Option (b⊕c)
 |.normal,a=>(e a).map .inl
 |.exit d,a=>match Nat.beq d id with
  |true=>(f a).map .inr
  |false=>none
 |_,_=>none
def F4 {f g A:Type} (h:aB->Option f) (id:Nat) (i:aB->Option g) (c:Exit->aB->Option A):Exit->aB->Option (f⊕(g⊕A))
 |.normal,a=>(h a).map .inl
 |.exit d,a=>match Nat.beq d id with
  |true=>(i a).map λb=>.inr (.inl b)
  |false=>(c (.exit d) a).map λb=>.inr (.inr b)
 |e,a=>(c e a).map λb=>.inr (.inr b)
def fB:eU->jP->Code->aB->(A:Type)->(Exit->aB->Option A)->Option A
 |ic,.leaf,e,b,_,a=>match e with
  |.skip=>a .normal b
  |.exit id=>a (.exit id) b
  |.ret=>a .ret b
  |.region _ o false=>iq ic o (List.range o.size) b (a .normal)
  |_=>none
 |ic,.one d,e,b,A,a=>match e with
  |.block id i=>fB ic d i b A (Ek id a)
  |_=>none
 |ic,.two u d q,e,b,A,a=>match e with
  |.seq i p=>match u with
   |.none=>fB ic d i b A (vR (λl=>fB ic q p l A a) a)
   |.x j c=>match pp b.g j with
    |some f=>(fB {ic with pin:=j++ic.pin,kg:=f++ic.kg} d i b c.den (Ny (proj c))).bind λk=>fB ic q p (qI {ic with pin:=j++ic.pin,kg:=f++ic.kg} c k) A a
    |none=>none
   |.rr j c=>match pp b.g j with
    |some f=>(fB {ic with pin:=j++ic.pin,kg:=f++ic.kg} d i b (c.den⊕A) (Nz (proj c) a)).bind λ
     |.inl k=>fB ic q p (qI {ic with pin:=j++ic.pin,kg:=f++ic.kg} c k) A a
     |.inr f=>some f
    |none=>none
  |.cond w i p=>match aI b.g w with
   |.val .bool y=>match y with
    |true=>fB ic d i b A a
    |false=>fB ic q p b A a
   |_=>none
  |_=>none
 |ic,.loop c v d,e,b,A,a=>match e with
  |.loop i=>(proj c b).bind λs=>match v with
   |.r=>(loop (λl=>fB ic d i (qI ic c l) (c.den⊕A) (Ob (proj c) a)) s).bind some
   |.x id m=>(loop (λl=>fB ic d i (qI ic c l) (c.den⊕m.den) (F3 (proj c) id (proj m))) s).bind λk=>a (.exit id) (qI ic m k)
   |.rr id m=>(loop (λl=>fB ic d i (qI ic c l) (c.den⊕(m.den⊕A)) (F4 (proj c) id (proj m) a)) s).bind λ
    |.inl k=>a (.exit id) (qI ic m k)
    |.inr f=>some f
  |_=>none
 |ic,.draw n,e,b,_,a=>match e with
  |.region _ o true=>bif qs o (yv n) (yT n) n then pn ic o (yv n) (yT n) (ir n) b (a .normal) else none
  |_=>none
 |ic,.nY t d,e,b,A,a=>bif kF b.h t then fB ic d e (pi t b) A a else none
 |ic,.keep j d,e,b,A,a=>match pp b.g j with
  |some f=>fB {ic with pin:=j++ic.pin,kg:=f++ic.kg} d e b A a
  |none=>none
section
variable {E:dz} {C:c8} {ic:eU} {A:Type}
def J.post (t:mD C D) {f:Code} {d:Exit->aB->Prop} (n:J E C f i (λj c=>d j c\/∃(e a:aB),d j e/\e=⟨D++a.g,a.h⟩/\l1 a.g c/\l3 a.h c/\jE a.g a.h=true)):J E C f i d:=
 λm u r s=>wp_mono (n m u r s) (λ_ _ _ ⟨c,b,k,l⟩=>by
  rcases b with b|⟨e,a,b,rfl,o,p,q⟩
  ·exact⟨c,b,k,l⟩
  exact⟨_,b,(k.tZ o p q).kg t,l⟩)
def jD:∀{U:jP} {C:c8} {ic:eU} {n:Code} {k:aB} {A:Type} {l:Exit->aB->Option A} {r:A} {m:Exit->aB->Prop},ic.ac E C->fB ic U n k A l=some r->(∀e i,l e i=some r->m e i)->J E C n k m
 |.leaf,C,ic,n,k,A,l,r,m,b,a,d=>by
  simp only[fB] at a;split at a
  ·exact J.skip (d _ _ a)
  ·exact J.exit (d _ _ a)
  ·exact J.ret (d _ _ a)
  ·exact J.region (Nk b (λi c=>d _ i c) a)
  cases a
 |.one F,C,ic,n,k,A,l,r,m,b,a,d=>by
  simp only[fB] at a;split at a
  ·refine J.block (jD b a ?_);intro e i c;cases e with
   |exit K=>
    simp only[Ek] at c;simp only[Ac];split at c
    ·rename_i q;rw[q];exact d _ _ c
    rename_i q;rw[q];exact d _ _ c
   |_=>exact d _ _ c
  cases a
 |.two K F a0,C,ic,n,k,A,l,r,m,b,a,d=>by
  simp only[fB] at a;split at a
  ·rename_i x ap;refine J.seq ?_;split at a
   ·refine jD b a ?_;intro e i c;cases e with
    |normal=>exact jD b c d
    |_=>exact d _ _ c
   ·rename_i B D;split at a
    case h_2=>cases a
    rename_i O I;obtain⟨j,z,a⟩:=bS.1 a;refine J.keep b.2.2.2.2 I (λP t u o v w=>J.post o (jD (ic:={ic with pin:=B++ic.pin,kg:=O++ic.kg}) ⟨b.1,b.2.1.trans t.symm,by rw[u,<-b.2.2.1],⟨b.2.2.2.1.1,v _ b.2.2.2.1.2.1,b.2.2.2.1.2.2.1,w b.2.2.2.1.2.2.2.1,b.2.2.2.1.2.2.2.2⟩,o⟩ z ?_));intro e i c;cases e with
    |normal=>exact .inr ⟨_,_,jD b a d,rfl,pJ c⟩
    |_=>cases c
   rename_i B D;split at a
   case h_2=>cases a
   rename_i O I;obtain⟨j,z,a⟩:=bS.1 a;refine J.keep b.2.2.2.2 I (λP t u o v w=>J.post o (jD (ic:={ic with pin:=B++ic.pin,kg:=O++ic.kg}) ⟨b.1,b.2.1.trans t.symm,by rw[u,<-b.2.2.1],⟨b.2.2.2.1.1,v _ b.2.2.2.1.2.1,b.2.2.2.1.2.2.1,w b.2.2.2.1.2.2.2.1,b.2.2.2.1.2.2.2.2⟩,o⟩ z ?_));intro e i c;cases e with
   |normal=>
    obtain⟨ad,g,f⟩:=dH.1 c;cases f;exact .inr ⟨_,_,jD b a d,rfl,pJ g⟩
   |_=>
    obtain⟨ad,g,f⟩:=dH.1 c;cases f;cases a;exact .inl (d _ _ g)
  ·rename_i bs x ap;split at a
   ·rename_i ce X;refine J.cond X (λe=>?_) (λe=>?_)
    ·subst e;exact jD b a d
    subst e;exact jD b a d
   cases a
  cases a
 |.loop D Y F,C,ic,n,k,A,l,r,m,b,a,d=>by
  simp only[fB] at a;split at a
  case h_2=>cases a
  rename_i x;obtain⟨bl,V,a⟩:=bS.1 a;obtain⟨L,M,N⟩:=pJ V;refine J.post b.2.2.2.2 ?_;cases Y with
  |r=>
   refine J.loop (ih D) a L M N ?_;intro i Q y s;refine J.kg b.2.2.2.2 (jD b y ?_);intro e R c;cases e with
   |normal=>
    obtain⟨j,g,f⟩:=dH.1 c;cases f;exact⟨rfl,pJ g⟩
   |_=>
    obtain⟨j,g,f⟩:=dH.1 c;cases f;cases s;exact⟨(λa=>by cases a),.inl (d _ _ g)⟩
  |x id an=>
   refine J.loop (ih D) a L M N ?_;intro i Q y s;refine J.kg b.2.2.2.2 (jD b y ?_);intro e R c;cases e with
   |normal=>
    obtain⟨j,g,f⟩:=dH.1 c;cases f;exact⟨rfl,pJ g⟩
   |exit K=>
    simp only[F3] at c;split at c
    ·rename_i q;obtain rfl:=dW q;obtain⟨j,g,f⟩:=dH.1 c;cases f;exact⟨(λa=>by cases a),.inr ⟨_,_,d _ _ s,rfl,pJ g⟩⟩
    cases c
   |_=>cases c
  |rr id an=>
   refine J.loop (ih D) a L M N ?_;intro i Q y s;refine J.kg b.2.2.2.2 (jD b y ?_);intro e R c;cases e with
   |normal=>
    obtain⟨j,g,f⟩:=dH.1 c;cases f;exact⟨rfl,pJ g⟩
   |exit K=>
    simp only[F4] at c;split at c
    ·rename_i q;obtain rfl:=dW q;obtain⟨j,g,f⟩:=dH.1 c;cases f;exact⟨(λa=>by cases a),.inr ⟨_,_,d _ _ s,rfl,pJ g⟩⟩
    obtain⟨j,g,f⟩:=dH.1 c;cases f;cases s;exact⟨(λa=>by cases a),.inl (d _ _ g)⟩
   |_=>
    obtain⟨j,g,f⟩:=dH.1 c;cases f;cases s;exact⟨(λa=>by cases a),.inl (d _ _ g)⟩
 |.draw G,C,ic,n,k,A,l,r,m,b,a,d=>by
  simp only[fB] at a;split at a
  case h_2=>cases a
  rename_i id Z;cases p:qs Z (yv G) (yT G) G with
  |false=>rw[p] at a;cases a
  |true=>
  rw[p] at a;exact J.draw E.mix b p a (λi c=>d _ i c)
 |.nY S F,C,ic,n,k,A,l,r,m,b,a,d=>by
  simp only[fB] at a;cases p:kF k.h S with
  |false=>rw[p] at a;cases a
  |true=>
  rw[p] at a;intro T am H W;obtain⟨av,a4,a3,H⟩:=H;exact jD b a d T am (H.freeze (kF.ok p)) W
 |.keep B F,C,ic,n,k,A,l,r,m,b,a,d=>by
  simp only[fB] at a;split at a
  case h_2=>cases a
  rename_i j z;refine J.keep b.2.2.2.2 z ?_;intro P t u o v w;exact jD (ic:={ic with pin:=B++ic.pin,kg:=j++ic.kg}) ⟨b.1,b.2.1.trans t.symm,by rw[u,<-b.2.2.1],⟨b.2.2.2.1.1,v _ b.2.2.2.1.2.1,b.2.2.2.1.2.2.1,w b.2.2.2.1.2.2.2.1,b.2.2.2.1.2.2.2.2⟩,o⟩ a d
end
end
end Go.h1
end
