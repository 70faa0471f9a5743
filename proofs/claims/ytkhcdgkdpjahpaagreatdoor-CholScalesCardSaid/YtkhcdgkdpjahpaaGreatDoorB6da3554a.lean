/-
  Parts of the proof: Fw38, Fw22, Fw23, Fw26, Fw27, Fw28, Fw34, Fw35, Fw37, Fw42, Fw45, Fw24, Fw29, Fw31, Fw32, Fw33, Fw30: the framework (Fw), pure forms (Dn), plain laws (Pl, Th), calls of functions (Ok).
-/
import Derived.Test.YtkhcdgkdpjahpaaGreatDoorBdd464862

set_option linter.all false
set_option maxHeartbeats 1000000
noncomputable section
namespace Go.hX
variable{a:Type}{b l W:Nat}{c q:TypeId}{d t:ah}{e P:List (Nat×ay)}{f:List (Nat×List aM)}{g y:cP}{h:Oper}{i X:aA}{j:List aM}{k:List (Nat×ae)}{m w:Operand}{n x:ae}{o:Exit->Act->World->Prop}{r:Array (Nat×Operand)}{s:Program}{u:aA->Prop}{v:World}{z:Nat->cJ}{A:Nat->cP}{B:Nat->Prop}{C:Exit->aA->Prop}{D:List (Nat×ah)}{E Y:Operand->ah}{F:ay}{G:Value}{H:cJ}{I:Bool}{L:List ah}{M:List ResultVar}{N:Op}{O:MapEntry}{Q:bI->Nat->Prop}{R:Array Operand}{S:List ay}{T:aM}{V:Array TypeId}
section
def pL:List ah->cM->Option (Nat×List aM)
 |.ref id (c::b)::_,true::_=>some (id,c::b)
 |_::as,_::a=>pL as a
 |_,_=>none
def nf (id:Nat) (a:ah):ah:=bif a.dB [id] then .dead else a
def jF (id:Nat):List ah->cM->List ah
 |.ref _ (_::_)::as,true::_=>.ref id []::as.map (nf id)
 |a::as,_::b=>nf id a::jF id as b
 |as,_=>as.map (nf id)
def hS {a:Type} (c:Nat->a) (d:Nat) (e:a):Nat->a:=λb=>if b=d then e else c b
def ka {d:Nat->a} {c:a}:hS d b c b=c:=by simp[hS]
def iu {c:Nat->a} {e:a} (d:b≠l):hS c l e b=c b:=by simp[hS,d]
section
variable {E:dA} {C:c8} {st:aA} {A:cH} {w w':World} {I I':Nat->Prop} {rt:Nat->cJ} {fp:Nat->cP}
def px {id:Nat} (a:Nat):ai ((id,F)::del [id] e) a=if id=a then some F else ai e a:=by
 rw[bv];split
 ·rfl
 rename_i b;rw[j3,ag (by simpa usingλc=>b c.symm)]
def bg.split (e:bg C st A w I rt fp) {id:Nat} {v:ay} (q:ai st.h id=some v) {i:ae} {m:i.den} {r:cJ} {j K:cP} (E:aD (aY I C.B) w i r m j) (u:(fp id).Perm (j++K)):bg C ⟨[],(id,⟨i,m⟩)::del [id] st.h⟩ A w I (hS rt id r) (hS fp id j):=by
 obtain⟨_,H,J⟩:=e.tree id v q;have p:∀a∈j,a∈fp id:=λa b=>u.mem_iff.2 (by simp[b]);have o:∀c d,ai ((id,(⟨i,m⟩:ay))::del [id] st.h) c=some d->(c=id/\d=⟨i,m⟩)\/(c≠id/\ai st.h c=some d):=λc d f=>by
  rw[px] at f;split at f
  ·rename_i n;exact .inl ⟨n.symm,(dF f).symm⟩
  rename_i n;exact .inr ⟨λx=>n x.symm,f⟩
 refine{e with tree:=?_,dis:=?_,tmp:=λc=>.dead _}
 ·intro c d f;rcases o c d f with⟨rfl,rfl⟩|⟨g,k⟩
  ·rw[ka,ka];exact⟨E,(hI.1 (u.nodup_iff.1 H)).1,λa b=>J a (p a b)⟩
  rw[iu g,iu g];exact e.tree c d k
 intro F G d L z D l a b;rcases o F d z with⟨rfl,rfl⟩|⟨g,k⟩<;>rcases o G L D with⟨rfl,rfl⟩|⟨s,t⟩
 ·exact absurd rfl l
 ·rw[ka] at b;rw[iu s];exact e.dis _ _ _ _ q t l a (p a b)
 ·rw[iu g] at b;rw[ka];exactλy=>e.dis _ _ _ _ k q l a b (p a y)
 rw[iu g] at b;rw[iu s];exact e.dis _ _ _ _ k t l a b
def bk.nf (l:bg C st A w I rt fp) {id:Nat} {q:ay} {i:cJ} {j:cP} {a:ah} {f:Value} (k:bk (aY I C.B) w st.h rt fp a f):bk (aY I C.B) w ((id,q)::del [id] st.h) (hS rt id i) (hS fp id j) (nf id a) f:=by
 unfold hX.nf;cases o:a.dB [id] with
 |true=>exact .dead _
 |false=>
  refine k.pB (λr g n=>⟨n,br.refl _ _⟩) (λd m p e=>?_);have c:d≠id:=λb=>CR o d m (by simp[b]);refine⟨?_,iu c,iu c,(l.tree d p e).1,λg _=>br.refl _ _⟩;rw[px,ag (λb=>c b.symm)];exact e
def JY (q:bg C st A w I rt fp) {id:Nat} (E:ai st.h id=some F) {y:n.den} {u:Loc} {f:cP} (z:aF w F.1 none (rt id) (T::j) n u H):∀{d:List ah} {c:cM} {a:cJ},gd (bk (aY I C.B) w st.h rt fp) d a->pL d c=some (id,T::j)->gd (bk (aY I C.B) w ((id,⟨n,y⟩)::del [id] st.h) (hS rt id H) (hS fp id f)) (jF id d c) a:=by
 have G:∀{d:List ah} {a:cJ},gd (bk (aY I C.B) w st.h rt fp) d a->gd (bk (aY I C.B) w ((id,⟨n,y⟩)::del [id] st.h) (hS rt id H) (hS fp id f)) (d.map (hX.nf id)) a:=by
  intro d
  induction d with
  |nil=>intro a b;cases a with|nil=>trivial|cons=>exact b.elim
  |cons e m p=>intro a b;cases a with|nil=>exact b.elim|cons J a=>exact⟨b.1.nf q,p b.2⟩
 intro d
 induction d with
 |nil=>intro c a _ b;cases c<;>cases b
 |cons e m p=>
  intro c a b i;cases a with
  |nil=>exact b.elim
  |cons J a=>
  cases c with
  |nil=>cases e<;>first|(cases i;done)|(rename_i l g;cases g<;>cases i)
  |cons k c=>
   by_cases o:∃l s g,e=.ref l (s::g)/\k=true
   ·obtain⟨l,s,g,rfl,rfl⟩:=o;simp only[pL,bw,e6,fd] at i;obtain⟨rfl,rfl,rfl⟩:=i;have x:=b.1;cases x with|ref r D=>
    rw[E] at r;cases r;obtain⟨rfl,rfl,rfl⟩:=D.hl z;refine⟨.ref (t:=⟨_,y⟩) (loc:=none) (by rw[px,ak rfl]) ?_,G b.2⟩;rw[ka];exact aF.here
   have aj:pL (e::m) (k::c)=pL m c:=by cases e<;>first|rfl|(rename_i l g;cases g<;>cases k<;>first|rfl|exact absurd ⟨_,_,_,rfl,rfl⟩ o)
   have v:jF id (e::m) (k::c)=hX.nf id e::jF id m c:=by cases e<;>first|rfl|(rename_i l g;cases g<;>cases k<;>first|rfl|exact absurd ⟨_,_,_,rfl,rfl⟩ o)
   rw[aj] at i;rw[v];exact⟨b.1.nf q,p b.2 i⟩
def kr.Rc (N:bg C st A w I rt fp) {id:Nat} (v:ai st.h id=some F) {z:n.den} (f2:bH F.1 F.2 j n z) {co:Loc} (d3:aF w F.1 none (rt id) j n co H):∃r x,aD (aY I C.B) w n H z r/\(fp id).Perm (r++x)/\∀{w':World} {I':Nat->Prop} {s:cP} {P:List (Nat×List aM)} {J:List (Nat×ay)} {W:Nat->cJ} {K:Nat->cP} {X:n.den} {u:F.1.den},kr C ⟨[],(id,⟨n,z⟩)::del [id] st.h⟩ w w' I I' (hS rt id H) (hS fp id r) s P J W K->id∈s->ai J id=some ⟨n,X⟩->(id,[])∈P->(∀g∈P,g.2=[])->dg F.1 F.2 j n X u->∃em ex,kr C st w w' I I' rt fp s ((id,j)::P) ((id,⟨F.1,u⟩)::J) em ex/\∀k,k≠id->em k=W k:=by
 obtain⟨gr,d9,el⟩:=N.tree id F v;obtain⟨io,hs,r,x,fa,fb,fn,M,fs,ft,fz⟩:=u2 j (loc:=none) gr (λ_ _ b=>by cases b) d9 (λ_ _ b=>by cases b) (N.notM v) f2;obtain⟨_,rfl,rfl⟩:=d3.hl fa;refine⟨r,x,fb,M,λ{w' I' s P J W K X u} l d0 V o am d6=>?_⟩;have f9:∀a∈r,a∈fp id:=λa c=>M.mem_iff.2 (by simp[c]);have d4:=hI.1 (M.nodup_iff.1 d9);have Q:∀a,(∃d∈s,∃e,ai ((id,(⟨n,z⟩:ay))::del [id] st.h) d=some e/\a∈hS fp id r d)->∃d∈s,∃e,ai st.h d=some e/\a∈fp d/\(d=id->a∈r):=by
  rintro a ⟨d,m,e,f,c⟩;by_cases g:d=id
  ·subst g;rw[ka] at c;exact⟨d,m,F,v,f9 a c,λ_=>c⟩
  rw[px,ag (λL=>g L.symm)] at f;rw[iu g] at c;exact⟨d,m,e,f,c,λL=>absurd L g⟩
 have E:∀a∈x,a<w.heap.size/\¬∃d∈s,∃e,ai ((id,(⟨n,z⟩:ay))::del [id] st.h) d=some e/\a∈hS fp id r d:=λa c=>by
  have O:a∈fp id:=M.mem_iff.2 (by simp[c]);refine⟨(el a O).2.2.1,λb=>?_⟩;obtain⟨d,_,e,f,p,D⟩:=Q a b;by_cases g:d=id
  ·exact d4.2.2 a (D g) a c rfl
  exact N.dis d id e F f v g a p O
 have ad:∀a∈x,w'.heap[a]?=w.heap[a]?:=λa c=>l.heap a (E a c).1 (λd m e f b=>(E a c).2 ⟨d,m,e,f,b⟩);have fT:∀G a,aY I C.B G a->br w w' a:=λG a T=>.of_heap (l.heap a (N.ib a (kF T)) (λd m e f b=>by
  obtain⟨d,_,e,f,p,_⟩:=Q a ⟨d,m,e,f,b⟩;exact N.notM f a p G T))
 obtain⟨_,a4,gl,go⟩:=l.tree id _ V;obtain⟨y,ic,_,d7,_⟩:=l.keep _ o ⟨n,z⟩ (by rw[px,ak rfl]);simp only[ka] at d7;rw[d7] at a4;have cv:∀a,br w w' a->oC w w' co n.size a:=λa b=>⟨λq _=>(b.1 q).1,λq=>(b.1 q).2,λq=>by rw[(b.1 q).1],b.2⟩;obtain⟨hv,dl,gc,_,gf,_,a0,_,ge⟩:=ft w' (aY I' C.B) H X (K id) u (λG a c=>by cases G;exact l.i a c;exact c.imp (l.i a) (λb=>b)) (by
   rintro a (⟨G,T⟩|c|⟨a3,f7⟩)
   ·exact cv a (fT G a T)
   ·exact cv a (.of_heap (ad a c))
   cases f7) a4 (λ_ _=>rfl)
  (λa a3 d2=>by
   have c:a∈x:=by
    rcases fs a a3 d2 with⟨_,b,_⟩|b
    ·cases b
    exact b
   exact(fn a a3 d2).1.dT (.of_heap (ad a c))) d6
 obtain rfl:=gf rfl (.inr rfl);have Z:∀a∈dl,a∈K id\/a∈x:=λa c=>eR.1 (a0.mem_iff.1 c);have av:∀k e,ai J k=some e->∀a∈K k,a∉x:=λk e o a c d5=>by
  rcases((l.tree k e o).2.2.2 a c).2.2 with b|b
  ·exact absurd (E a d5).1 U
  exact(E a d5).2 b
 have ap:∀k y,ai ((id,(⟨F.1,u⟩:ay))::J) k=some y->(k=id/\y=⟨F.1,u⟩)\/(k≠id/\ai J k=some y):=λk y o=>by
  rw[bv] at o;split at o
  ·rename_i g;exact .inl ⟨g.symm,(dF o).symm⟩
  rename_i g;exact .inr ⟨λL=>g L.symm,o⟩
 have an:∀a,(w.heap.size<=a\/∃d∈s,∃e,ai ((id,(⟨n,z⟩:ay))::del [id] st.h) d=some e/\a∈hS fp id r d)->w.heap.size<=a\/∃d∈s,∃e,ai st.h d=some e/\a∈fp d:=λa b=>b.imp (λb=>b) (λb=>by
  obtain⟨d,m,e,f,p,_⟩:=Q a b;exact⟨d,m,e,f,p⟩)
 refine⟨hS W id (rt id),hS K id dl,⟨l.size,l.os,l.tape,l.output,?_,l.evo,l.i,?_,?_,?_,?_,?_⟩,λk o=>iu o⟩
 ·intro a c f3;refine l.heap a c (λd m e f b=>?_);obtain⟨d,m,e,f,p,_⟩:=Q a ⟨d,m,e,f,b⟩;exact f3 d m e f p
 ·intro a c;exact(l.i2 a c).imp (λb=>b) (λb=>⟨b.1,an a b.2⟩)
 ·intro k y o;rcases ap k y o with⟨rfl,rfl⟩|⟨p,D⟩
  ·rw[ka,ka];refine⟨.inl d0,gc,?_,λa c=>?_⟩
   ·rw[a0.nodup_iff,hI];exact⟨gl,d4.2.1,λeq f0 a c g=>av k _ V eq f0 (g▸c)⟩
   rcases Z a c with c|c
   ·obtain⟨bl,bs,ce⟩:=go a c;exact⟨bl,bs,an a ce⟩
   have O:a∈fp k:=M.mem_iff.2 (by simp[c]);refine⟨λm=>?_,fA (E a c).1 l.size,.inr ⟨k,d0,F,v,O⟩⟩;rcases l.i2 a m with b|⟨_,b|b⟩
   ·exact(el a O).1 b
   ·exact absurd (E a c).1 U
   exact(E a c).2 b
  rw[iu p,iu p];obtain⟨gs,bl,bs,ce⟩:=l.tree k y D;refine⟨gs.imp (λb=>b) (λb=>?_),bl,bs,λa c=>?_⟩
  ·have b:ai ((id,(⟨n,z⟩:ay))::del [id] st.h) k=none:=b;rw[px,ag (λg=>p g.symm)] at b;exact b
  obtain⟨v1,dz,ci⟩:=ce a c;exact⟨v1,dz,an a ci⟩
 ·intro d q gt hc m f4 S a c;rcases ap d gt m with⟨rfl,rfl⟩|⟨p,D⟩<;>rcases ap q hc f4 with⟨rfl,rfl⟩|⟨ds,Y⟩
  ·exact absurd rfl S
  ·rw[ka] at c;rw[iu ds];rcases Z a c with c|c
   ·exact l.dis d q _ _ V Y S a c
   exactλb=>av q _ Y a b c
  ·rw[iu p] at c;rw[ka];intro b;rcases Z a b with b|b
   ·exact l.dis d q _ _ D V S a c b
   exact av d _ D a c b
  rw[iu p] at c;rw[iu ds];exact l.dis d q _ _ D Y S a c
 ·intro g t e f;rcases dw.1 t with rfl|t
  ·rw[v] at f;cases f;exact⟨⟨F.1,u⟩,by rw[bv,ak rfl],rfl,ka,⟨_,d3.ty⟩,ge⟩
  by_cases aj:g.1=id
  ·rw[aj,v] at f;cases f;refine⟨⟨F.1,u⟩,by rw[bv,ak aj.symm],rfl,by rw[aj];exact ka,⟨F.1,by rw[am g t];cases F.1<;>rfl⟩,λd8 _ _ _ o=>?_⟩;rw[am g t,yv] at o;cases o
  obtain⟨v1,dz,ci,v4,hi,zw⟩:=l.keep g t e (by rw[px,ag (λb=>aj b.symm)];exact f);rw[iu aj] at v4 zw;exact⟨v1,by rw[bv,ag (λb=>aj b.symm)];exact dz,ci,by rw[iu aj];exact v4,hi,zw⟩
 intro g t e f d8 i0 is ii hr hw R f6 f5 d1 f8;rcases dw.1 t with rfl|t
 ·rw[v] at f;cases f;refine⟨⟨F.1,u⟩,by rw[bv,ak rfl],qI R d6 d1,λcs f1=>?_⟩;obtain⟨ao,a4⟩:=fz d8 _ _ _ _ _ R (by exact f6) d1 f5 f8 cs f1;rw[ka];exact⟨a0.mem_iff.2 (kl _ ao),.of_heap (ad cs ao)⟩
 rw[am g t,qH] at R;cases R
def c5.sub {s:Oper} {r:List ah} {d W:Array _} (d2:s.op=.call {callee:=.value m,args:=d,argTypes:=W}) (ex:aE st.g m=.bY l r) (ci:s.dst=some b) (co:C.ok b) (bs:∀(V:cH) (w:World),(callFunc l V).run E.P w=.ok (.enter l V) w) {a:List e5} (bl:oB E l a S) (d8:mf 0 a=none) (ad:∀j,C.I0 j\/C.B j->j<C.w0.heap.size/\¬C.F0 j) (am:iw E C.I0 C.w0) {id:Nat} (q:ai st.h id=some F) {p:List aM} {v:n.den} (O:bH F.1 F.2 (T::p) n v) {H:cM} (d9:pL (d.toList.map (aE st.g)++r) H=some (id,T::p)) (a3:L=jF id (d.toList.map (aE st.g)++r) H) (a0:lv ((id,⟨n,v⟩)::del [id] st.h) (dZ L a) L a) (A:kw b ⟨[],(id,⟨n,v⟩)::del [id] st.h⟩ L a S=true) (ap:id∈dZ L a) (an:id∈jC L a) {y':n.den} {z:F.1.den} (ds:ai (hp L a++gB b (gj S) 0 S) id=some ⟨n,y'⟩) (d7:dg F.1 F.2 (T::p) n y' z) (o:u ⟨(b,ri b S)::kill (dZ L a) ((id,T::p)::sE (jC L a)) st.g,((id,⟨F.1,z⟩)::(hp L a++gB b (gj S) 0 S))++del (dZ L a) st.h⟩):c5 E C s st u:=by
 rintro c w ⟨I,rt,fp,e⟩ next fz d1
 obtain⟨i,eq,Z⟩:∃i:cH,c.eval m=.func (.func l) #[] i/\gd (bk (aY I C.B) w st.h rt fp) r i.toList:=by
  have G:=e.aE m;rw[ex] at G;generalize f2:c.eval m=f7 at G;cases G with|bY dl cv=>
  exact⟨_,rfl,wy (by simpa using dl) (λU c j D x=>cv U c j D (by simpa using x))⟩
 have a4:gd (bk (aY I C.B) w st.h rt fp) (d.toList.map (aE st.g)++r) (d.toList.map c.eval++i.toList):=zT (zU (λm=>e.aE m) _) Z;obtain⟨fb,fn,f3⟩:=e.tree id F q;obtain⟨ft,fT,_,_,J,_⟩:=yl (T::p) (loc:=none) fb (λ_ _ o=>by cases o) fn (λ_ _ o=>by cases o) (e.notM q) O;obtain⟨Y,f4,ao,fa,d3⟩:=kr.Rc e q O J;have M:=e.split q ao fa;have N:=JY (y:=v) (f:=Y) e q J a4 d9;rw[<-a3] at N;have ce:=M.call N bl a0 A (λ_ _=>by rw[d8];trivial) (M.glob ad am);have d6:(execOp c.eval s).run E.P w=.ok (.enter l (d.toList.map c.eval++i.toList).toArray) w:=(by have aj:d.map c.eval=(d.toList.map c.eval).toArray:=(by rw[<-Array.toList_map]);have X:(d.toList.map c.eval++i.toList).toArray=(d.toList.map c.eval).toArray++i:=ab;rw[X];simp only[execOp,d2,resolve,aj,Sem.run_bind,eq,Deferred.ofValue,Sem.run_pure,Result.andThen_ok,invoke,Array.empty_append,Array.append_empty];exact bs _ _);unfold Oper.wp;rw[d6];show Calls E.P l _ w _;refine ce.mono ?_;rintro k w' ⟨I',f5,f0,fs,rfl,el,d4⟩;show next (c.put s.dst (m6 fs)) w'
 rw[ci];obtain⟨f6,f1,em,d5⟩:=d3 el ap ds (b0.2 ⟨id,an,rfl⟩) (λk cs=>by obtain⟨U,_,rfl⟩:=b0.1 cs;rfl) d7;simp only[kw,a2,et] at A;have d0:=gX.ok A.1.2;refine d1 _ _ _ o rfl ⟨I',_,_,(e.e0 em).put co (av:=ri b S) (d4 _ _ _ (λt R=>?_))⟩;have D:=HF d0 t R;have x:=A.2 t R;have Q:t.1≠id:=λk=>(by rw[k,px,ak rfl] at x;cases x);have K:ai ((id,(⟨F.1,z⟩:ay))::(hp L a++gB b (gj S) 0 S)) t.1=some t.2:=(by rw[bv,ag (λk=>Q k.symm)];exact D);refine⟨by rw[hQ,K];rfl,?_⟩;simp only[de,K];exact d5 _ Q
end
end
section
def g6:Nat->List e5->List (Nat×ah)
 |_,[]=>[]
 |k,.v b::a=>(k,.val b.1 b.2)::g6 (k+1) a
 |k,.m _ _::a=>(k,.ref k [])::g6 (k+1) a
 |k,.o _::a=>(k,.ref k [])::g6 (k+1) a
 |k,.n::a=>(k,.bu (.slice none 0 0))::g6 (k+1) a
 |k,.w _ _ e d _::a=>(k,.view k [] e d)::g6 (k+1) a
 |k,.s _ _::a=>g6 (k+1) a
 |k,.c f g::a=>(k,.bY f (g.map λb=>.val b.1 b.2))::g6 (k+1) a
def hz:Nat->List e5->List (Nat×ay)
 |_,[]=>[]
 |k,.v _::a=>hz (k+1) a
 |k,.m b _::a=>(k,b)::hz (k+1) a
 |k,.o b::a=>(k,b)::hz (k+1) a
 |k,.w e d _ _ _::a=>(k,⟨.osl e,d⟩)::hz (k+1) a
 |k,.c _ _::a=>hz (k+1) a
 |k,.n::a=>hz (k+1) a
 |k,.s _ _::a=>hz (k+1) a
def fg:Nat->List e5->cP
 |_,[]=>[]
 |k,.m _ _::a=>k::fg (k+1) a
 |k,.w _ _ _ _ _::a=>k::fg (k+1) a
 |k,_::a=>fg (k+1) a
def qf (a:c8):Option cl->Prop
 |none=>True
 |some (c,g,d)=>c∈a.pin/\(∀h∈d,h∈a.pin)/\∃b e f,a.vs c=.pointer (some ⟨b,e,none⟩)/\b<a.w0.heap.size/\¬a.F0 b/\a.w0.cell? ⟨b,e,none⟩=some (.func (.func g) #[] f)/\f.toList=d.map a.vs
def kP:Option cl->cP
 |none=>[]
 |some (a,_,b)=>a::b
def oN (j:Program) (e:aA) (a:ay):ResultVar->cP->Prop
 |.tmp m,c=>match gt e.g m with
  |.val i n=>(⟨i,n⟩:ay)=a/\c=[]
  |.bu f=>gw a.1 f.cells.toList=some a.2/\bn a.1 f.cells.toList=f/\c=[]
  |.ref id d=>c=[id]/\∃b,ai e.h id=some b/\bH b.1 b.2 d a.1 a.2
  |_=>False
 |.cell l k,c=>dn j a.1 k/\match gt e.g l with
  |.ref id d=>c=[id]/\∃b i,ai e.h id=some b/\dp b.1 d=some (.optr i)/\bH b.1 b.2 (d++[.deref]) a.1 a.2
  |_=>False
def qd (b:Program) (d:aA):List ResultVar->List ay->cP->Prop
 |[],[],a=>a=[]
 |r::f,e::g,a=>e.1.dS=true/\∃i1 c,a=i1++c/\oN b d e r i1/\qd b d f g c
 |_,_,_=>False
def mF (a:aA):Nat->List e5->Prop
 |_,[]=>True
 |k,.m c l::b=>(gt a.g k=.ref k []/\ai a.h k=some ⟨c.1,l⟩/\c.1.dS=true/\oy c.1=true)/\mF a (k+1) b
 |k,.w i j e d f::b=>(gt a.g k=.view k [] e d/\ai a.h k=some ⟨.osl i,f⟩/\(i.dS=true/\e<d)/\f.length=j.length)/\mF a (k+1) b
 |k,_::b=>mF a (k+1) b
def C5 (e:Program) (a:List e5) (g:List ResultVar) (f:List ay) (b:Exit) (d:aA):Prop:=
 (b=.normal\/b=.ret)/\∃c,qd e d g f c/\gX (fg 0 a++c)=true/\mF d 0 a
section
variable {E:dA}
def KJ {i:Nat->Prop} (f:gd (tw i B v) S H):bk (aY i B) v e z A (.bY b (S.map λc=>.val c.1 c.2)) (.func (.func b) #[] H.toArray):=by
 have k:=Du f;refine .bY (by simpa using k.symm) (λd o h a g=>?_);have j:∀{S:List ay} {H:cJ} {d:Nat} {c:ay} {h:Value},gd (tw i B v) S H->S[d]?=some c->H[d]?=some h->tw i B v c h:=by
  intro S
  induction S with
  |nil=>intro H d c h _ a;simp at a
  |cons r S n=>
   intro H d c h f a g;cases H with
   |nil=>exact f.elim
   |cons q H=>
    cases d with
    |zero=>simp only[iC,bw] at a g;subst a g;exact f.1
    |succ d=>exact n f.2 (by simpa using a) (by simpa using g)
 rw[gq] at a;obtain⟨c,m,rfl⟩:=dE.1 a;obtain⟨p,rfl,l⟩:=j f m (by simpa using g);exact .val l
def DL {r q:Nat->Prop} {w:World}:∀{k:Nat} {d:List e5} {G:cJ} {z:cE},jq (tn r q w) d G z->∃(h:Nat->cJ) (f:Nat->cP),(∀id b,ai (hz k d) id=some b->k<=id/\(∃x,z[id-k]?=some x/\f id=x)/\aD (aY r q) w b.1 (h id) b.2 (f id))/\(∀a,gt (g6 k d) (k+a)=.dead\/∃v,G[a]?=some v/\bk (aY r q) w (hz k d) h f (gt (g6 k d) (k+a)) v)/\(∀a,a<k->gt (g6 k d) a=.dead)
 |k,[],G,z,p=>⟨λ_=>[],λ_=>[],(λid b p=>by cases p),λa=>.inl rfl,λa _=>rfl⟩
 |k,l::d,[],z,p=>p.elim
 |k,l::d,v::G,[],p=>p.elim
 |k,l::d,v::G,x::z,p=>by
  obtain⟨C,ad⟩:=p;obtain⟨h,f,i1,M,D⟩:=DL (k:=k+1) ad;have L:∀id b,ai (hz (k+1) d) id=some b->k<=id/\(∃y,(x::z)[id-k]?=some y/\f id=y)/\aD (aY r q) w b.1 (h id) b.2 (f id):=λid b u=>(by obtain⟨ao,⟨y,e,R⟩,av⟩:=i1 id b u;exact⟨U,⟨y,by rw[(U:id-k=(id-(k+1))+1),nz];exact e,R⟩,av⟩);have Q:∀(b:ay) (t:cJ) (N:ah),(∀(B:List (Nat×ay)) (F:Nat->cJ) (J:Nat->cP),ai B k=some b->F k=t->bk (aY r q) w B F J N v)->aD (aY r q) w b.1 t b.2 x->hz k (l::d)=(k,b)::hz (k+1) d->g6 k (l::d)=(k,N)::g6 (k+1) d->_:=λb t N g j aj V=>by
   refine(⟨λK=>if K=k then t else h K,λK=>if K=k then x else f K,?_,?_,?_⟩:∃(h:Nat->cJ) (f:Nat->cP),(∀id b,ai (hz k (l::d)) id=some b->k<=id/\(∃y,(x::z)[id-k]?=some y/\f id=y)/\aD (aY r q) w b.1 (h id) b.2 (f id))/\(∀a,gt (g6 k (l::d)) (k+a)=.dead\/∃i,(v::G)[a]?=some i/\bk (aY r q) w (hz k (l::d)) h f (gt (g6 k (l::d)) (k+a)) i)/\(∀a,a<k->gt (g6 k (l::d)) a=.dead))
   ·intro id S u;rw[aj,bv] at u;split at u
    ·rename_i O;subst O;obtain rfl:=dF u;refine⟨aZ _,⟨x,ab,ab⟩,by simp only[if_true];exact j⟩
    rename_i O;obtain⟨ao,e,R⟩:=L id S u;have I:¬id=k:=λp=>O p.symm;exact⟨ao,by simp only[ag I];exact e,by simp only[ag I];exact R⟩
   ·intro a;rw[V,gy];cases a with
    |zero=>
     right;refine⟨v,rfl,?_⟩;rw[ak U];exact g _ _ _ (by rw[aj,bv,ak rfl]) (by simp only[if_true])
    |succ a=>
     rw[ag U,(U:k+(a+1)=k+1+a)];refine(M a).imp id ?_;rintro⟨i,ao,e⟩;refine⟨i,by simpa using ao,?_⟩;refine e.pB (λm H am=>⟨am,br.refl w H⟩) (λid _ S u=>?_);obtain⟨bs,_,a0⟩:=i1 id S u;have I:¬id=k:=U;have Z:¬k=id:=U;exact⟨by rw[aj,bv,ag Z];exact u,by simp only[ag I],by simp only[ag I],a0,λH _=>br.refl w H⟩
   intro a A;rw[V,gy,ag U];exact D a U
  cases l with
  |v b=>
   obtain⟨rfl,t,g,j⟩:=C;refine⟨h,f,L,λa=>?_,λa A=>?_⟩
   ·show gt ((k,_)::_) _=_\/_;rw[gy];cases a with
    |zero=>
     right;refine⟨v,rfl,?_⟩;show bk _ _ _ _ _ (gt ((k,_)::_) _) _;rw[gy,ak U,g];exact .val j
    |succ a=>
     rw[ag U,(U:k+(a+1)=k+1+a)];refine(M a).imp id ?_;rintro⟨i,ao,e⟩;refine⟨i,by simpa using ao,?_⟩;show bk _ _ _ _ _ (gt ((k,_)::_) _) _;rw[gy,ag U];exact e
   show gt ((k,_)::_) _=_;rw[gy,ag U];exact D a U
  |n=>
   obtain⟨rfl,g⟩:=C;refine⟨h,f,L,λa=>?_,λa A=>?_⟩
   ·show gt ((k,_)::_) _=_\/_;rw[gy];cases a with
    |zero=>
     right;refine⟨v,rfl,?_⟩;show bk _ _ _ _ _ (gt ((k,_)::_) _) _;rw[gy,ak U,g];exact .bu _
    |succ a=>
     rw[ag U,(U:k+(a+1)=k+1+a)];refine(M a).imp id ?_;rintro⟨i,ao,e⟩;refine⟨i,by simpa using ao,?_⟩;show bk _ _ _ _ _ (gt ((k,_)::_) _) _;rw[gy,ag U];exact e
   show gt ((k,_)::_) _=_;rw[gy,ag U];exact D a U
  |s a3 a4=>
   refine⟨h,f,L,λa=>?_,λa A=>D a U⟩;cases a with
   |zero=>exact .inl (D k U)
   |succ a=>
    have A:=M a;rw[(U:k+1+a=k+(a+1))] at A;refine A.imp id ?_;rintro⟨i,ao,e⟩;exact⟨i,by simpa using ao,e⟩
  |c n ce=>
   obtain⟨rfl,ci,g,j⟩:=C;refine⟨h,f,L,λa=>?_,λa A=>?_⟩
   ·show gt ((k,_)::_) _=_\/_;rw[gy];cases a with
    |zero=>
     right;refine⟨v,rfl,?_⟩;show bk _ _ _ _ _ (gt ((k,_)::_) _) _;rw[gy,ak U,g];exact KJ j
    |succ a=>
     rw[ag U,(U:k+(a+1)=k+1+a)];refine(M a).imp id ?_;rintro⟨i,ao,e⟩;refine⟨i,by simpa using ao,?_⟩;show bk _ _ _ _ _ (gt ((k,_)::_) _) _;rw[gy,ag U];exact e
   show gt ((k,_)::_) _=_;rw[gy,ag U];exact D a U
  |m b co=>obtain⟨t,g,j⟩:=C;exact Q b t (.ref k []) (λB F J ao e=>by subst g;exact .ref (loc:=none) ao (by rw[e];exact aF.here)) j rfl rfl
  |o b=>obtain⟨t,g,j⟩:=C;exact Q b t (.ref k []) (λB F J ao e=>by subst g;exact .ref (loc:=none) ao (by rw[e];exact aF.here)) j rfl rfl
  |w Y X E P cs=>
   obtain⟨H,o,T,g,⟨bl,an,ap⟩,j⟩:=C;refine Q ⟨.osl Y,X⟩ _ (.view k [] E P) (λB F J ao e=>?_) j rfl rfl;have W:bk (aY r q) w B F J (.view k [] E P) (.slice (some ⟨H,if T=E then o else o+E*Y.size,none⟩) (P-E) (T-E)):=.view (loc:=none) (len:=X.length) ao (by rw[e];exact aF.here) U an ap;rw[ag U] at W;rw[g];exact W
def OR {f:cE} (h:f.flatten.Nodup):(∀(a:Nat) b,f[a]?=some b->b.Nodup)/\∀(a c:Nat) b g,f[a]?=some b->f[c]?=some g->a≠c->∀e∈b,e∉g:=by
 induction f with
 |nil=>exact⟨λa b h=>by simp at h,λa c b g h=>by simp at h⟩
 |cons r f q=>
  simp only[iB,hI] at h;obtain⟨m,n,l⟩:=h;obtain⟨i1,p⟩:=q n;refine⟨λa b d=>?_,λa c b g d i o e j k=>?_⟩
  ·cases a with
   |zero=>simp only[iC,bw] at d;subst d;exact m
   |succ a=>exact i1 a b (by simpa using d)
  cases a with
  |zero=>
   cases c with
   |zero=>exact o rfl
   |succ c=>
    simp only[iC,bw] at d;subst d;exact l e j e (hH.2 ⟨g,jU (by simpa using i),k⟩) rfl
  |succ a=>
   cases c with
   |zero=>
    simp only[iC,bw] at i;subst i;exact l e k e (hH.2 ⟨b,jU (by simpa using d),j⟩) rfl
   |succ c=>exact p a c b g (by simpa using d) (by simpa using i) U e j k
def vD (b:cH):ResultVar->Sem Value
 |.tmp a=>Pure.pure (b.getD a undef)
 |.cell c a=>do loadVar a (<-asAddr (b.getD c undef))
def R7 {e:Func} (g:e.results=M.toArray) (c:cH) (a:World) (h:(M.mapM (vD c)).run s a=.ok H a):(results e c).run s a=.ok (m6 H) a:=by
 unfold results;simp only[Sem.run_bind,g];rw[Array.mapM_eq_mapM_toList,Sem.run_map];have i:∀b:ResultVar->Sem Value,(∀d,b d=vD c d)->(M.mapM b).run s a=.ok H a:=λb f=>(by rw[show b=vD c from funext f];exact h);rw[i _ (λd=>by cases d<;>rfl)];simp only[Result.andThen_ok,Sem.run_pure];congr 1
 match H with
 |[]=>rfl
 |[r]=>rfl
 |r::k::j=>simp[m6]
def oN.rep {L:c8} {e:cH} {H:Nat->Prop} (t:bg L i e v H z A) (J:F.1.dS=true) {d:ResultVar} (a:oN s i F d g):∃r M,(vD e d).run s v=.ok r v/\wl H v F r M/\(∃am,(g.map A).flatten.Perm (M++am))/\∀id∈g,∃F,ai i.h id=some F:=by
 have N:∀(id:Nat) (f:ay) (n:List aM),ai i.h id=some f->bH f.1 f.2 n F.1 F.2->∃q k j o,aF v f.1 none (z id) n F.1 q k/\aD (aY H L.B) v F.1 k F.2 j/\mE v q k F.1.size/\(A id).Perm (j++o):=(by intro id f n c u;obtain⟨ao,K,av⟩:=t.tree id _ c;obtain⟨q,k,j,o,D,p,G,E,_⟩:=yl n (τ':=F.1) (y:=F.2) ao (loc:=none) (λ_ _ a=>by cases a) K (λ_ _ a=>by cases a) (t.notM c) u;exact⟨q,k,j,o,D,p,G,E⟩);cases d with
 |tmp d=>
  have b:=t.tmp d;simp only[oN] at a;split at a
  ·rename_i ap a3 l;rw[l] at b;obtain⟨rfl,rfl⟩:=a;generalize m:e.getD d undef=r at b;cases b with|val an=>
   exact⟨_,[],by show(Pure.pure (e.getD d undef):Sem Value).run s v=_;rw[m];rfl,⟨_,rfl,an.dS J⟩,⟨[],ab⟩,ab⟩
  ·rename_i r l;rw[l] at b;obtain⟨ao,K,rfl⟩:=a;generalize m:e.getD d undef=a0 at b;cases b;exact⟨_,[],by show(Pure.pure (e.getD d undef):Sem Value).run s v=_;rw[m];rfl,⟨_,K.symm,mP ao⟩,⟨[],ab⟩,ab⟩
  ·rename_i id n l;rw[l] at b;obtain⟨rfl,f,c,u⟩:=a;generalize m:e.getD d undef=r at b;cases b with|ref C x=>
   rw[c] at C;cases C;obtain⟨q,k,j,o,D,p,G,E⟩:=N id f n c u;obtain⟨rfl,rfl,rfl⟩:=x.hl D;refine⟨_,j,by show(Pure.pure (e.getD d undef):Sem Value).run s v=_;rw[m];rfl,⟨_,rfl,p.dS J⟩,⟨o,by simpa using E⟩,λZ w=>?_⟩;rw[fe] at w;subst w;exact⟨_,c⟩
  exact a.elim
 |cell I O=>
  have b:=t.tmp I;simp only[oN] at a;obtain⟨V,a⟩:=a;split at a
  ·rename_i id n l;rw[l] at b;obtain⟨rfl,f,ap,c,Y,u⟩:=a;generalize m:e.getD I undef=r at b;cases b with|ref C x=>
   rw[c] at C;cases C;have:=x.ty;rw[Y] at this;cases this;obtain⟨P,ad,S,rfl,Q,R⟩:=l6 (t.tree id _ c).1 x;have X:=x.append (aF.Aw Q R);obtain⟨q,k,j,o,D,p,G,E⟩:=N id f _ c u;obtain⟨aj,T,U⟩:=X.hl D;subst T;subst U;subst aj;have W:=(G P ad rfl).1;refine⟨bn F.1 S,j,?_,⟨_,rfl,p.dS J⟩,⟨o,by simpa using E⟩,λZ w=>?_⟩
   ·show(do loadVar O (<-asAddr (e.getD I undef)):Sem Value).run s v=_;rw[m];simp only[bn,List.headD,asAddr,Sem.run_bind,Sem.run_pure,Result.andThen_ok];exact H2 V W p.len
   rw[fe] at w;subst w;exact⟨_,c⟩
  exact a.elim
def qd.rep {k:Program} {t:c8} {g:aA} {s:cH} {f w0:World} {j:Nat->Prop} {H:Nat->cJ} {m:Nat->cP} (n:bg t g s f j H m):∀{e:List ResultVar} {p:List ay} {a:cP},qd k g e p a->∃vs d,(e.mapM (vD s)).run k f=.ok vs f/\jq (wl j f) p vs d/\(∃F,(a.map m).flatten.Perm (d.flatten++F))/\∀id∈a,∃i,ai g.h id=some i
 |[],[],a,b=>by obtain rfl:a=[]:=b;exact⟨[],[],rfl,trivial,⟨[],.refl _⟩,ab⟩
 |[],i::I,a,b=>b.elim
 |r::e,[],a,b=>b.elim
 |r::e,i::I,a,b=>by
  obtain⟨E,i1,K,rfl,C,D⟩:=b;obtain⟨J,l,u,v,⟨G,w⟩,x⟩:=C.rep n E;obtain⟨vs,d,y,z,⟨q,A⟩,B⟩:=qd.rep (w0:=w0) n D;refine⟨J::vs,l::d,?_,⟨v,z⟩,⟨G++q,?_⟩,λo c=>?_⟩
  ·simp only[List.mapM_cons,Sem.run_bind,u,Sem.run_pure,Result.andThen_ok,y]
  ·simp only[hf,oI,iB];refine(w.append A).trans ?_;rw[oG,oG];refine List.Perm.append_left l ?_;rw[<-oG,<-oG];exact List.Perm.append_right q List.perm_append_comm
  rcases eR.1 c with c|c
  ·exact x o c
  exact B o c
def DM:∀{k:Nat} {args:List e5},∀b∈fg k args,k<=b
 |k,[],b,a=>by cases a
 |k,f::args,b,a=>by
  have d:=DM (k:=k+1) (args:=args);cases f with
  |m e q=>
   rcases dw.1 a with rfl|a
   ·exact aZ _
   have:=d b a;omega
  |w t p j h r=>
   rcases dw.1 a with rfl|a
   ·exact aZ _
   have:=d b a;omega
  |v e=>have:=d b a;omega
  |o e=>have:=d b a;omega
  |c n l=>have:=d b a;omega
  |n=>have:=d b a;omega
  |s g i=>have:=d b a;omega
def mF.rep {S:c8} {C:aA} {F:cH} {w:World} {G:Nat->Prop} {M:Nat->cJ} {u:Nat->cP} (x:bg S C F w G M u) {B:Nat->Prop}:∀{k:Nat} {g:List e5} {vs:cJ},mF C k g->vs.length=g.length->(∀e,e∈fg k g->∀v,vs[e-k]?=some v->F.getD e undef=v)->∃d,jq (tp G B w) g vs d/\d.flatten=((fg k g).map u).flatten/\∀id∈fg k g,k<=id/\∃t,ai C.h id=some t
 |k,[],vs,i,y,z=>by cases vs with
  |nil=>exact⟨[],trivial,rfl,by simp[fg]⟩
  |cons=>cases y
 |k,H::g,[],i,y,z=>by cases y
 |k,H::g,v::vs,i,y,z=>by
  have r:mF C (k+1) g->(∀e,e∈fg (k+1) g->e∈fg k (H::g))->∃d,jq (tp G B w) g vs d/\d.flatten=((fg (k+1) g).map u).flatten/\∀id∈fg (k+1) g,k+1<=id/\∃t,ai C.h id=some t:=λi Y=>by
   have W:=DM (k:=k+1) (args:=g);exact mF.rep x i (by simpa using y) (λe f ap Z=>z e (Y e f) ap (by
    have:=W e f;rw[(U:e-k=(e-(k+1))+1),nz];exact Z))
  cases H with
  |v t=>
   obtain⟨d,j,l,b⟩:=r i (λe f=>f);exact⟨[]::d,⟨rfl,j⟩,by simpa[fg] using l,λid a=>⟨by have:=(b id a).1;omega,(b id a).2⟩⟩
  |o t=>
   obtain⟨d,j,l,b⟩:=r i (λe f=>f);exact⟨[]::d,⟨rfl,j⟩,by simpa[fg] using l,λid a=>⟨by have:=(b id a).1;omega,(b id a).2⟩⟩
  |n=>
   obtain⟨d,j,l,b⟩:=r i (λe f=>f);exact⟨[]::d,⟨rfl,j⟩,by simpa[fg] using l,λid a=>⟨by have:=(b id a).1;omega,(b id a).2⟩⟩
  |s bs ci=>
   obtain⟨d,j,l,b⟩:=r i (λe f=>f);exact⟨[]::d,⟨rfl,j⟩,by simpa[fg] using l,λid a=>⟨by have:=(b id a).1;omega,(b id a).2⟩⟩
  |c n d1=>
   obtain⟨d,j,l,b⟩:=r i (λe f=>f);exact⟨[]::d,⟨rfl,j⟩,by simpa[fg] using l,λid a=>⟨by have:=(b id a).1;omega,(b id a).2⟩⟩
  |m t d2=>
   obtain⟨⟨K,q,L,ad⟩,i⟩:=i;obtain⟨d,j,l,b⟩:=r i (λe f=>eH _ f);have p:=x.tmp k;rw[K] at p;have J:F.getD k undef=v:=z k (by simp[fg]) v ab;rw[J] at p;obtain⟨E,_⟩:=x.tree k _ q;refine⟨u k::d,⟨?_,j⟩,by simp only[fg,eG,iB,l],λid a=>?_⟩
   ·cases p with|ref A I=>
    rw[q] at A;cases A;obtain⟨rfl,rfl,rfl⟩:=aF.ei.1 I;exact⟨M k,rfl,E.dS L⟩
   rcases dw.1 a with rfl|a
   ·exact⟨aZ _,_,q⟩
   exact⟨by have:=(b id a).1;omega,(b id a).2⟩
  |w R av co ce a0=>
   obtain⟨⟨K,q,⟨L,ad⟩,am⟩,i⟩:=i;obtain⟨d,j,l,b⟩:=r i (λe f=>eH _ f);have p:=x.tmp k;rw[K] at p;have J:F.getD k undef=v:=z k (by simp[fg]) v ab;rw[J] at p;obtain⟨E,_⟩:=x.tree k _ q;refine⟨u k::d,⟨?_,j⟩,by simp only[fg,eG,iB,l],λid a=>?_⟩
   ·cases p with
    |jg=>omega
    |view A I ao cv dl=>
    rename_i d0 d3 cs N P an O;rw[q] at A;cases A;obtain⟨aj,bl,T⟩:=aF.ei.1 I;simp only[ae.osl.injEq] at aj;subst aj;have D:M k=[.slice (some ⟨N,P,none⟩) an O]:=T;have X:=E;obtain⟨a3,a4,Q,ds⟩:=X;rw[Q] at D;simp only[fd,Value.slice.injEq,and_true] at D;refine⟨N,P,O,by rw[ag U],U,?_⟩;have:=aD.dS (τ:=.osl R) (B':=B) L E;rw[Q,D.1,D.2.2] at this;have V:List.length (α:=R.den) a0=av.length:=am;rw[<-V];exact this
   rcases dw.1 a with rfl|a
   ·exact⟨aZ _,_,q⟩
   exact⟨by have:=(b id a).1;omega,(b id a).2⟩
def oB.O2 {o:FuncId} {m:Func} {c:Code} {e:List e5} (d9:E.P.funcs[o]?=some m) (d:m.body=some c) (fb:m.results=M.toArray) (gc:e.length<=m.ntmps) (b:∀f:c8,f.n=m.ntmps->f.pin=fg 0 e++kP (mf 0 e)->(∀a,f.I0 a\/f.B a->a<f.w0.heap.size/\¬f.F0 a)->qf f (mf 0 e)->iw E f.I0 f.w0->J E f c ⟨g6 0 e,hz 0 e⟩ (C5 E.P e M S)):oB E o e S:=by
 intro x y G l K av am ex N a3 el;obtain⟨fp,f9⟩:=zV am;obtain⟨cv,Y,I,d0,f7⟩:=DL (k:=0) am
 let f:c8:={I0:=y,B:=G,F0:=λa=>a∈K.flatten,w0:=x,n:=m.ntmps,pin:=fg 0 e++kP (mf 0 e),vs:=λi=>l.getD i undef}
 have bl:∀i,(l.toArray++Array.replicate (m.ntmps-l.toArray.size) undef).getD i undef=l.getD i undef:=by
  intro i;rw[vZ,ht];rcases bi i l.length with Q|Q
  ·rw[Array.getElem?_append,ak (by simpa using Q)];simp
  rw[Array.getElem?_append,ag (by simp;omega),hG Q,Array.getElem?_replicate];split<;>rfl
 obtain⟨fs,ft⟩:=OR ex;have d4:bg f ⟨g6 0 e,hz 0 e⟩ (l.toArray++Array.replicate (m.ntmps-l.toArray.size) undef) x y cv Y:=by
  refine{n:=?_,i0:=λ_ b=>b,i1:=λ_ b=>.inl b,ib:=av,tree:=?_,dis:=?_,tmp:=?_,frame:=λ_ _ _=>rfl,evo:=λ_ _=>.refl _ _,size:=aZ _,os:=rfl,tape:=rfl,output:=rfl,pin:=λi _=>bl i}
  ·simp only[Array.size_append,oL,Array.size_replicate];show _=m.ntmps;omega
  ·intro id j v;obtain⟨_,⟨o,ao,t⟩,T⟩:=I id j v;rw[Nat.sub_zero] at ao;refine⟨T,by rw[t];exact fs id o ao,λa d=>?_⟩;rw[t] at d;have q:a∈K.flatten:=hH.2 ⟨o,jU ao,d⟩;obtain⟨C,U,f1⟩:=N a q;exact⟨C,U,f1,.inr q⟩
  ·intro ce s j f5 em u eq a d an;obtain⟨_,⟨o,ao,t⟩,_⟩:=I ce j em;obtain⟨_,⟨d1,C,U⟩,_⟩:=I s f5 u;rw[Nat.sub_zero] at ao C;rw[t] at d;rw[U] at an;exact ft ce s o d1 ao C eq a d an
  intro i;show bk _ _ _ _ _ (gt (g6 0 e) i) _;rw[bl];rcases d0 i with b|⟨w,L,z⟩
  ·rw[h1] at b;rw[b];exact .dead _
  rw[h1] at z;rw[ht,L];exact z
 have fn:qf f (mf 0 e):=by
  cases p:mf 0 e with
  |none=>trivial
  |some fT=>
   obtain⟨i,o,co⟩:=fT;rw[p] at a3;obtain⟨_,_,a,fz,f6,V,D,W,f3,f4⟩:=a3;have a0:f.pin=fg 0 e++kP (some (i,o,co)):=(by rw[<-p]);refine⟨by rw[a0];simp[kP],λs u=>by rw[a0];simp[kP,u],a,fz,f6,V,D,W,f3,f4⟩
 refine calls_of_wp d9 d (wp_mono (b f rfl rfl (λa d=>⟨av a d,λq=>d.elim (N a q).1 (N a q).2.1⟩) fn el _ x ⟨y,cv,Y,d4⟩ rfl) ?_);rintro f8 X F ⟨ds,⟨d8,ci,fa,R,q⟩,⟨H,gf,Z,g⟩,ap⟩;obtain⟨gl,p,f2,V,⟨ge,D⟩,W⟩:=qd.rep (w0:=x) g fa;obtain⟨r,d2,ad,d3⟩:=mF.rep g (B:=G) (vs:=l) q fp (λs u w bs=>by
  rw[Nat.sub_zero] at bs;rw[g.pin s (lC _ u)];show l.getD s undef=w;rw[ht,bs];rfl)
 have R:=gX.ok R;have a4:∀id∈fg 0 e++ci,∃j,ai ds.h id=some j:=λid O=>by
  rcases eR.1 O with b|b
  ·exact(d3 id b).2
  exact W id b
 have A:=BL g a4 R;rw[hf,oI,<-ad] at A;have A:(r.flatten++p.flatten).Nodup:=(by have:=(List.Perm.append_left r.flatten D).nodup_iff.1 A;rw[<-oG] at this;exact(hI.1 this).1);have d5:∀a∈r.flatten++p.flatten,∃id j,ai ds.h id=some j/\a∈Z id:=λa d=>by
  have d:a∈((fg 0 e++ci).map Z).flatten:=by
   rw[hf,oI,<-ad];rcases eR.1 d with b|b
   ·exact lC _ b
   exact kl _ (D.mem_iff.2 (lC _ b))
  obtain⟨co,L,z⟩:=hH.1 d;obtain⟨id,O,rfl⟩:=b0.1 L;obtain⟨j,v⟩:=a4 id O;exact⟨id,j,v,z⟩
 have cs:∃w,(results m X.tmps).run E.P F=.ok w F/\∃H r p dl,Ending.returned w=.returned (m6 dl)/\De y G x K e l S H r p dl F:=
  ⟨_,R7 fb X.tmps F f2,H,r,p,_,rfl,d2,V,A,(λa d=>by
   obtain⟨id,j,v,d6⟩:=d5 a d;obtain⟨ao,t,T,f0⟩:=(g.tree id j v).2.2 a d6;exact⟨ao,t,T,f0⟩),g.i0,(λa d=>by
   rcases g.i1 a d with b|b|b
   ·exact .inl b
   ·exact .inr ⟨g.ib a (.inl d),.inl b⟩
   exact .inr ⟨g.ib a (.inl d),.inr b⟩),g.size,g.os,g.tape,g.output,g.evo,λa d d7=>g.frame a d d7⟩
 rcases d8 with rfl|rfl
 ·exact⟨ap,cs⟩
 exact⟨ap,cs⟩
end
end
section
open Classical in
def pick {a:Type} (c:a->Prop):Option a:=if h:∃b,c b then some h.choose else none
theorem Q7 {d:a->Prop} {c:a} (b:pick d=some c):d c:=by
 unfold pick at b;split at b
 ·grind
 grind
inductive lF where
 |v (τ:ae)
 |s (a:ah)
 |p (id:Nat) (a b:List aM)
 |w (id:Nat)
structure kp where
 g:List (Nat×lF)
 h:List (Nat×ae)
@[reducible] def nb:List (Nat×lF)->Type->Type
 |[],r=>r
 |(_,.v a)::l,r=>a.den×nb l r
 |(_,.s _)::l,r=>nb l r
 |(_,.p _ _ _)::l,r=>Nat×nb l r
 |(_,.w _)::l,r=>cz×nb l r
@[reducible] def rk:List (Nat×ae)->Type
 |[]=>Unit
 |(_,a)::l=>a.den×rk l
@[reducible] def kp.den (a:kp):Type:=nb a.g (rk a.h)
def k5 {e:Type}:(c:List (Nat×lF))->nb c e->List (Nat×ah)
 |[],_=>[]
 |(d,.v f)::c,s=>(d,.val f s.1)::k5 c s.2
 |(d,.s a)::c,s=>(d,a)::k5 c s
 |(d,.p id a b)::c,s=>(d,.ref id (a++.idx s.1::b))::k5 c s.2
 |(d,.w id)::c,s=>(d,.view id [] s.1.1 s.1.2)::k5 c s.2
def qL {b:Type}:(a:List (Nat×lF))->nb a b->b
 |[],s=>s
 |(_,.v _)::a,s=>qL a s.2
 |(_,.s _)::a,s=>qL a s
 |(_,.p _ _ _)::a,s=>qL a s.2
 |(_,.w _)::a,s=>qL a s.2
def qJ:(a:List (Nat×ae))->rk a->List (Nat×ay)
 |[],_=>[]
 |(d,b)::a,s=>(d,⟨b,s.1⟩)::qJ a s.2
def h6 (a:kp) (b:a.den):aA:=⟨k5 a.g b,qJ a.h (qL a.g b)⟩
def fD {τ:ae} (a:ae) (b:τ.den):Option a.den:=if e:τ=a then some (e▸b) else none
theorem hO {a:x.den} {b:n.den} (c:fD n a=some b):(⟨x,a⟩:ay)=⟨n,b⟩:=by grind [fD]
def ro:aM->aM->Bool
 |.idx a,.idx b=>Nat.beq a b
 |.deref,.deref|.unst,.unst|.fst,.fst|.snd,.snd=>true
 |_,_=>false
theorem ro.ok {a:aM} (b:ro T a=true):T=a:=by cases T<;>cases a<;>first|rfl|(cases b;done)|(rw[dU b])
def ja:List aM->List aM->Bool
 |[],[]=>true
 |a::c,b::d=>ro a b&&ja c d
 |_,_=>false
theorem ja.ok:∀{c d:List aM},ja c d=true->c=d
 |[],[],_=>rfl
 |[],_::_,b=>by cases b
 |_::_,[],b=>by cases b
 |a::c,e::d,b=>by simp only[ja,a2] at b;rw[ro.ok b.1,ja.ok b.2]
def qk:ah->ah->Bool
 |.ref a c,.ref b d=>Nat.beq a b&&ja c d
 |.addr a c,.addr b d=>Nat.beq a b&&ja c d
 |_,_=>false
theorem qk.ok {a b:ah} (c:qk a b=true):a=b:=by cases a<;>cases b<;>first|(cases c;done)|(simp only[qk,a2] at c;grind [Nat.eq_of_beq_eq_true,ja.ok])
def ql:List ah->List ah->Bool
 |[],[]=>true
 |a::c,b::d=>qk a b&&ql c d
 |_,_=>false
theorem ql.ok:∀{c d:List ah},ql c d=true->c=d
 |[],[],_=>rfl
 |[],_::_,b=>by cases b
 |_::_,[],b=>by cases b
 |a::c,e::d,b=>by simp only[ql,a2] at b;rw[qk.ok b.1,ql.ok b.2]
def oX:ah->ah->Bool
 |.bY c e,.bY d f=>Nat.beq c d&&ql e f
 |a,b=>qk a b
theorem oX.ok {a b:ah} (c:oX a b=true):a=b:=by cases a<;>cases b<;>first|exact qk.ok c|(simp only[oX,a2] at c;grind [Nat.eq_of_beq_eq_true,ql.ok])
def vO:List aM->List aM->List aM->cL
 |[],a,.idx k::b=>bif ja a b then some k else none
 |s::c,a,d::b=>bif ro s d then vO c a b else none
 |_,_,_=>none
theorem Ik:∀{d b e:List aM} {c:Nat},vO d b e=some c->e=d++.idx c::b
 |[],b,[],c,a=>by cases a
 |[],b,s::e,c,a=>by
  cases s<;>simp only[vO] at a<;>try (cases a;done)
  grind [ja.ok]
 |s::d,b,[],c,a=>by cases a
 |s::d,b,g::e,c,a=>by
  simp only[vO] at a;cases f:ro s g with
  |false=>grind
  |true=>rw[f] at a;rw[ro.ok f,Ik a];rfl
def m4 {f:Type} (e:List (Nat×ah)) (g:Option f):(c:List (Nat×lF))->Option (nb c f)
 |[]=>g
 |(d,.v o)::c=>match gt e d with
  |.val _ m=>match fD o m with
   |some n=>(m4 e g c).map (λi=>(n,i))
   |none=>none
  |_=>none
 |(d,.s a)::c=>match oX a (gt e d) with
  |true=>m4 e g c
  |false=>none
 |(d,.p id a b)::c=>match gt e d with
  |.ref h i=>bif Nat.beq id h then match vO a b i with
   |some k=>(m4 e g c).map (λf=>(k,f))
   |none=>none else none
  |_=>none
 |(d,.w id)::c=>match gt e d with
  |.view h [] l j=>bif Nat.beq id h then(m4 e g c).map (λf=>((l,j),f)) else none
  |_=>none
def y3 (b:List (Nat×ay)):(a:List (Nat×ae))->Option (rk a)
 |[]=>some ()
 |(d,g)::a=>match ai b d with
  |some e=>match fD g e.2 with
   |some f=>(y3 b a).map (λc=>(f,c))
   |none=>none
  |none=>none
def sA:List (Nat×ae)->Nat->Bool
 |[],_=>false
 |(k,_)::r,n=>bif Nat.beq k n then true else sA r n
def nc:List (Nat×lF)->List (Nat×ae)->Bool
 |[],_=>true
 |(_,.v _)::l,h=>nc l h
 |(_,.s a)::l,h=>(a.ids.all λid=>sA h id)&&nc l h
 |(_,.p id _ _)::l,h=>sA h id&&nc l h
 |(_,.w id)::l,h=>sA h id&&nc l h
def proj (a:kp) (b:aA):Option a.den:=bif nc a.g a.h then m4 b.g (y3 b.h a.h) a.g else none
theorem x8:∀{b:List (Nat×ae)} {c:rk b} {id:Nat},sA b id=true->(ai (qJ b c) id).isSome=true
 |[],_,_,a=>by cases a
 |(k,e)::b,c,id,a=>by
  simp only[sA] at a;simp only[qJ,ai];cases d:Nat.beq k id with
  |true=>rfl
  |false=>rw[d] at a;exact x8 (by grind)
theorem vA {o:Type} {q:aA} {n:Option o}:∀{e:List (Nat×lF)} {f:nb e o},m4 q.g n e=some f->lO (k5 e f) q/\n=some (qL e f)
 |[],f,c=>⟨trivial,c⟩
 |(d,.v F)::e,f,c=>by
  simp only[m4] at c;split at c
  case h_2=>cases c
  rename_i G D t;split at c
  case h_2=>cases c
  rename_i E u;obtain⟨x,k,rfl⟩:=dE.1 c;obtain⟨h,i⟩:=vA k;refine⟨⟨?_,h⟩,i⟩;rw[t];cases hO u;rfl
 |(d,.s a)::e,f,c=>by
  simp only[m4] at c;split at c
  case h_2=>cases c
  rename_i r;obtain⟨h,i⟩:=vA c;exact⟨⟨(oX.ok r).symm,h⟩,i⟩
 |(d,.p id a b)::e,f,c=>by
  simp only[m4] at c;split at c
  case h_2=>cases c
  rename_i m x k;cases j:Nat.beq id m with
  |false=>grind
  |true=>
  rw[j] at c;simp only[cond_true] at c;split at c
  case h_2=>cases c
  rename_i B A;obtain⟨y,l,rfl⟩:=dE.1 c;obtain⟨h,i⟩:=vA l;refine⟨⟨?_,h⟩,i⟩;grind [Ik,Nat.eq_of_beq_eq_true]
 |(d,.w id)::e,f,c=>by
  simp only[m4] at c;split at c
  case h_2=>cases c
  rename_i m C z k;cases j:Nat.beq id m with
  |false=>grind
  |true=>
  rw[j] at c;simp only[cond_true] at c;obtain⟨y,l,rfl⟩:=dE.1 c;obtain⟨h,i⟩:=vA l;refine⟨⟨?_,h⟩,i⟩;simp_all
theorem Hr {e:aA}:∀{b:List (Nat×ae)} {c:rk b},y3 e.h b=some c->lP (qJ b c) e
 |[],c,a=>trivial
 |(d,m)::b,c,a=>by
  simp only[y3] at a;split at a
  case h_2=>cases a
  rename_i k g;split at a
  case h_2=>cases a
  rename_i l i;obtain⟨j,f,rfl⟩:=dE.1 a;refine⟨?_,Hr f⟩;grind [hO]
theorem vM {r:Type} {c:List (Nat×ae)} {t:rk c}:∀{l:List (Nat×lF)} {s:nb l r},nc l c=true->jA (k5 l s) (qJ c t)=true
 |[],s,h=>rfl
 |(d,.v e)::l,s,h=>by have:=vM (r:=r) (t:=t) (l:=l) (s:=s.2) h;simp only[jA,k5,p0,ah.ids,List.all_nil,Bool.true_and] at this|-;omega
 |(d,.s a)::l,s,h=>by simp only[nc,a2] at h;have:=vM (r:=r) (t:=t) (l:=l) (s:=s) h.2;simp only[jA,k5,p0,a2] at this|-;grind [x8,List.all_eq_true]
 |(_,.p id a b)::l,s,h=>by simp only[nc,a2] at h;have:=vM (r:=r) (t:=t) (l:=l) (s:=s.2) h.2;simp only[jA,k5,p0,a2] at this|-;refine⟨?_,this⟩;simp_all [x8,p0,List.all_nil,Bool.and_true,ah.ids]
 |(_,.w id)::l,s,h=>by simp only[nc,a2] at h;have:=vM (r:=r) (t:=t) (l:=l) (s:=s.2) h.2;simp only[jA,k5,p0,a2] at this|-;refine⟨?_,this⟩;simp_all [x8,p0,List.all_nil,Bool.and_true,ah.ids]
theorem pG {a:kp} {b:a.den} (c:proj a i=some b):lO (h6 a b).g i/\lP (h6 a b).h i/\jA (h6 a b).g (h6 a b).h=true:=by
 unfold proj at c;cases d:nc a.g a.h with
 |false=>grind
 |true=>
  rw[d] at c;obtain⟨e,f⟩:=vA c;exact⟨e,Hr f,vM d⟩
inductive eV where
 |v (τ:ae)
 |m (τ:ae)
 |o (τ:ae)
 |c (f:Nat) (τs:List ae)
 |n
 |s (f:Nat) (l:cP)
 |w (σ:ae)
@[reducible] def iT:List ae->Type
 |[]=>Unit
 |τ::a=>τ.den×iT a
@[reducible] def eY:List eV->Type
 |[]=>Unit
 |.c _ e::a=>iT e×eY a
 |.n::a=>Unit×eY a
 |.s _ _::a=>Unit×eY a
 |.v b::a=>b.den×eY a
 |.m b::a=>b.den×eY a
 |.o b::a=>b.den×eY a
 |.w d::a=>(List d.den×Nat×Nat)×eY a
@[reducible] def gm:List eV->Type->Type
 |[],a=>a
 |.m e::b,a=>e.den×gm b a
 |.w d::b,a=>List d.den×gm b a
 |.v _::b,a=>gm b a
 |.o _::b,a=>gm b a
 |.c _ _::b,a=>gm b a
 |.n::b,a=>gm b a
 |.s _ _::b,a=>gm b a
structure g1 where
 f:Nat
 ps:List eV
 rs:List ae
 tb:eY ps->Option (gm ps (iT rs))
def gA:(c:List ae)->iT c->List ay
 |[],_=>[]
 |τ::b,a=>⟨τ,a.1⟩::gA b a.2
def ef {j:Type}:(f:List eV)->eY f->gm f j->List e5
 |[],_,_=>[]
 |.v e::d,a,b=>.v ⟨e,a.1⟩::ef d a.2 b
 |.m e::d,a,b=>.m ⟨e,a.1⟩ b.1::ef d a.2 b.2
 |.o e::d,a,b=>.o ⟨e,a.1⟩::ef d a.2 b
 |.c h l::d,a,b=>.c h (gA l a.1)::ef d a.2 b
 |.n::d,a,b=>.n::ef d a.2 b
 |.w k::d,a,b=>.w k a.1.1 a.1.2.1 a.1.2.2 b.1::ef d a.2 b.2
 |.s g i::d,a,b=>.s g i::ef d a.2 b
def fM {d:Type}:(e:List eV)->gm e d->d
 |[],a=>a
 |.m _::b,a=>fM b a.2
 |.w _::b,a=>fM b a.2
 |.v _::b,a=>fM b a
 |.o _::b,a=>fM b a
 |.c _ _::b,a=>fM b a
 |.n::b,a=>fM b a
 |.s _ _::b,a=>fM b a
def g0:Nat->List eV->Option cl
 |_,[]=>none
 |k,.s a b::_=>some (k,a,b)
 |k,_::c=>g0 (k+1) c
theorem vI {r:Type}:∀{k:Nat} {ps:List eV} {a:eY ps} {b:gm ps r},mf k (ef ps a b)=g0 k ps
 |k,[],a,b=>rfl
 |k,e::d,a,b=>by have c:=λa b=>vI (r:=r) (k:=k+1) (ps:=d) (a:=a) (b:=b);cases e<;>first|exact c _ _|rfl
def aJ (E:dA) (a:g1):Prop:=
 (∀(d:cH) (e:World),(callFunc a.f d).run E.P e=.ok (.enter a.f d) e)/\∀c b,a.tb c=some b->oB E a.f (ef a.ps c b) (gA a.rs (fM a.ps b))
def fo:(j:ae)->j.den->List aM->(a:ae)->Option a.den
 |_,c,[],a=>fD a c
 |.osl d,i,.idx h::b,a=>match i[h]? with
  |some g=>fo d g b a
  |none=>none
 |.optr d,c,.deref::b,a=>fo d c b a
 |.st d,c,.unst::b,a=>fo d c b a
 |.pr e _,c,.fst::b,a=>fo e c.1 b a
 |.pr _ f,c,.snd::b,a=>fo f c.2 b a
 |_,_,_,_=>none
def MQ {a:n.den}:fo n a [] x=fD x a:=by cases n<;>rfl
theorem gi:∀{g:List aM} {τ:ae} {e:τ.den} {d:ae} {f:d.den},fo τ e g d=some f->bH τ e g d f
 |[],τ,e,d,f,c=>by rw[MQ] at c;cases hO c;grind [bH.ei]
 |s::g,τ,e,d,f,c=>by
  cases τ<;>cases s<;>simp only[fo] at c<;>try (cases c;done)
  case osl.idx t i=>
   split at c
   ·rename_i h j;exact⟨h,j,gi c⟩
   grind
  case optr.deref t=>exact gi (τ:=t) c
  case st.unst t=>exact gi (τ:=t) c
  case pr.fst a b=>exact gi (τ:=a) c
  case pr.snd a b=>exact gi (τ:=b) c
def s4 {τ':ae} (b:τ'.den) (a:ae):Option a.den:=if e:bK τ' a=true then some (cast (bK.den e) b) else none
theorem Hk {b:x.den} {c:n.den} (a:s4 b n=some c):kW x b n c:=by
 unfold s4 at a;split at a
 ·rename_i d;cases a;exact .same d (cast_heq _ _).symm
 grind
def vz:(c:ae)->c.den->(b:ae)->Option b.den
 |.optr d,a,.ptr .dO e=>(s4 (τ':=d) a e).map some
 |_,a,b=>s4 a b
theorem Q1 {c:x.den} {d:n.den} (a:vz x c n=some d):kW x c n d:=by
 unfold vz at a;split at a
 ·obtain⟨f,b,rfl⟩:=dE.1 a;simp only[s4] at b;split at b
  ·rename_i e;cases b;exact .ptr e (cast_heq _ _).symm
  grind
 exact Hk a
def mQ:ae->Value->Bool
 |τ,.agg _=>mZ τ
 |_,.tuple _=>false
 |τ,_=>!mZ τ
theorem mQ.ok (a:mQ n G=true):bn n G.cells.toList=G:=by
 cases G<;>simp only[mQ] at a<;>first
  |(cases a;done)
  |(rw[y7 a];rfl)
  |(rw[Bool.not_eq_true'] at a;rw[y6 a];rfl)
def k3 (
 h:List (Nat×ay)) (f:cP):ah->(a:ae)->Option a.den
 |.val _ g,a=>s4 g a
 |.bu d,a=>bif mQ a d then gw a d.cells.toList else none
 |.ref id c,a=>match bU id f with
  |true=>none
  |false=>match ai h id with
   |none=>none
   |some b=>match dp b.1 c with
    |none=>none
    |some e=>match fo b.1 b.2 c e with
     |none=>none
     |some i=>vz e i a
 |_,_=>none
theorem DP {h:n.den} (a:k3 e g d n=some h):pU e g d ⟨n,h⟩:=by
 cases d with
 |val c b=>exact Hk a
 |bu p=>
  simp only[k3] at a;cases i:mQ n p with
  |false=>grind
  |true=>rw[i] at a;exact⟨a,mQ.ok i⟩
 |ref id m=>
  simp only[k3] at a;split at a
  ·cases a
  rename_i j;split at a
  ·cases a
  rename_i o k;split at a
  ·cases a
  rename_i c q;split at a
  ·cases a
  rename_i b l;have:bU id g=false/\∃f c b,ai e id=some f/\bH f.1 f.2 m c b/\kW c b n h:=⟨j,o,c,b,k,gi l,Q1 a⟩;exact this
 |_=>cases a
def l1 (b:List (Nat×ay)) (a:cP):(g:List ae)->List ah->Option (iT g)
 |[],[]=>some ()
 |τ::d,c::as=>match k3 b a c τ with
  |some f=>(l1 b a d as).map (λe=>(f,e))
  |none=>none
 |_,_=>none
def Fb {f:List (Nat×ay)} {d:cP}:∀{c:List ae} {e:List ah} {b:iT c},l1 f d c e=some b->gd (pU f d) e (gA c b)
 |[],[],_,_=>trivial
 |[],_::_,_,a=>by cases a
 |_::_,[],_,a=>by cases a
 |τ::j,i::as,b,a=>by
  simp only[l1] at a;split at a
  case h_2=>cases a
  rename_i l h;obtain⟨k,g,rfl⟩:=dE.1 a;exact⟨DP h,Fb g⟩
def ou:List ah->List eV->cP
 |.ref id []::as,.m _::a=>id::ou as a
 |.ref id []::as,.o _::a=>id::ou as a
 |.view id [] _ _::as,.w _::a=>id::ou as a
 |_::as,_::a=>ou as a
 |_,_=>[]
def pD:Value->Bool
 |.slice none 0 0=>true
 |_=>false
theorem pD.ok (a:pD G=true):G=.slice none 0 0:=by grind [pD]
def vo:(a:ae)->Value->Option a.den
 |.osl _,.slice none 0 0=>some []
 |_,_=>none
theorem OY {b:n.den} (a:vo n G=some b):G=.slice none 0 0/\∃c,(⟨n,b⟩:ay)=⟨.osl c,[]⟩:=by
 unfold vo at a;split at a
 ·simp_all
 grind
def dC (d:List (Nat×ay)) (f:cP):(t:List eV)->List ah->Option (eY t)
 |[],[]=>some ()
 |.v g::b,p::as=>match k3 d f p g with
  |some e=>(dC d f b as).map (λa=>(e,a))
  |none=>none
 |.c r u::b,.bY q a::as=>bif Nat.beq q r then match l1 d f u a with
  |some e=>(dC d f b as).map (λa=>(e,a))
  |none=>none else none
 |.m g::b,.ref id []::as=>bif g.dS&&oy g then match ai d id with
  |some h=>match fD g h.2 with
   |some e=>(dC d f b as).map (λa=>(e,a))
   |none=>none
  |none=>none else none
 |.o g::b,.ref id []::as=>match ai d id with
  |some h=>match fD g h.2 with
   |some e=>(dC d f b as).map (λa=>(e,a))
   |none=>none
  |none=>none
 |.n::b,.bu i::as=>bif pD i then(dC d f b as).map (λa=>((),a)) else none
 |.s _ _::b,_::as=>(dC d f b as).map (λa=>((),a))
 |.o g::b,.bu i::as=>match vo g i with
  |some e=>(dC d f b as).map (λa=>(e,a))
  |none=>none
 |.w l::b,.view id [] k j::as=>bif l.dS then(bif Nat.blt k j then match ai d id with
  |some h=>match fD (.osl l) h.2 with
   |some e=>(dC d f b as).map (λa=>((e,k,j),a))
   |none=>none
  |none=>none else none) else none
 |_,_=>none
def wC {h:Type} (f:List (Nat×ay)) (e:cP) (av:ah) (c:ae) (d:c.den->Option h):Option h:=match av with
 |.ref id g=>match bU id e with
  |true=>none
  |false=>match ai f id with
   |none=>none
   |some a=>match dp a.1 g with
    |none=>none
    |some i=>(fo a.1 a.2 g i).bind λj=>match vz i j c with
     |none=>none
     |some b=>d b
 |av=>match k3 f e av c with
  |none=>none
  |some b=>d b
theorem Kg {c:n.den->Option a}:wC e g d n c=(k3 e g d n).bind c:=by
 cases d with
 |ref id f=>
  grind [bU,ai,dp,fo,vz,wC,k3]
 |_=>
  simp only[wC];split
  ·rename_i b;rw[b];rfl
  rename_i b;rw[b];rfl
def hC {p:Type} (e:List (Nat×ay)) (g:cP):(x:List eV)->List ah->(eY x->Option p)->Option p
 |[],[],a=>a ()
 |.v h::d,r::as,a=>wC e g r h λf=>hC e g d as λb=>a (f,b)
 |.c u y::d,.bY t b::as,a=>bif Nat.beq t u then match l1 e g y b with
  |some f=>hC e g d as λb=>a (f,b)
  |none=>none else none
 |.m h::d,.ref id []::as,a=>bif h.dS&&oy h then match ai e id with
  |some i=>match fD h i.2 with
   |some f=>hC e g d as λb=>a (f,b)
   |none=>none
  |none=>none else none
 |.o h::d,.ref id []::as,a=>match ai e id with
  |some i=>match fD h i.2 with
   |some f=>hC e g d as λb=>a (f,b)
   |none=>none
  |none=>none
 |.n::d,.bu j::as,a=>bif pD j then hC e g d as λb=>a ((),b) else none
 |.s _ _::d,_::as,a=>hC e g d as λb=>a ((),b)
 |.o h::d,.bu j::as,a=>match vo h j with
  |some f=>hC e g d as λb=>a (f,b)
  |none=>none
 |.w q::d,.view id [] l k::as,a=>bif q.dS then(bif Nat.blt l k then match ai e id with
  |some i=>match fD (.osl q) i.2 with
   |some f=>hC e g d as λb=>a ((f,l,k),b)
   |none=>none
  |none=>none else none) else none
 |_,_,_=>none
theorem kB {A:Type} {d:List (Nat×ay)} {f:cP}:∀{k:List eV} {q:List ah} {b:eY k->Option A},hC d f k q b=(dC d f k q).bind b
 |[],[],b=>rfl
 |[],_::_,b=>rfl
 |p::a,[],b=>by cases p<;>rfl
 |.v h::a,e::as,b=>by
  simp only[hC,dC,Kg];cases k3 d f e h with
  |none=>rfl
  |some g=>
   simp only[aP];rw[kB];cases dC d f a as<;>rfl
 |.c z B::a,e::as,b=>by
  cases e with
  |bY y i=>
   simp only[hC,dC];cases Nat.beq y z with
   |false=>rfl
   |true=>
    simp only[cond_true];cases l1 d f B i with
    |none=>rfl
    |some g=>
     simp only;rw[kB];cases dC d f a as<;>rfl
  |ref id p=>cases p<;>rfl
  |_=>rfl
 |.m h::a,e::as,b=>by
  cases e with
  |ref id p=>
   cases p with
   |cons=>rfl
   |nil=>
    simp only[hC,dC];cases(h.dS&&oy h) with
    |false=>rfl
    |true=>
     simp only[cond_true];cases ai d id with
     |none=>rfl
     |some j=>
      simp only;cases fD h j.2 with
      |none=>rfl
      |some g=>
       simp only;rw[kB];cases dC d f a as<;>rfl
  |_=>rfl
 |.o h::a,e::as,b=>by
  cases e with
  |ref id p=>
   cases p with
   |cons=>rfl
   |nil=>
    simp only[hC,dC];cases ai d id with
    |none=>rfl
    |some j=>
     simp only;cases fD h j.2 with
     |none=>rfl
     |some g=>
      simp only;rw[kB];cases dC d f a as<;>rfl
  |bu l=>
   simp only[hC,dC];cases vo h l with
   |none=>rfl
   |some g=>
    simp only;rw[kB];cases dC d f a as<;>rfl
  |_=>rfl
 |.w u::a,e::as,b=>by
  cases e with
  |view id p t r=>
   cases p with
   |cons=>rfl
   |nil=>
    simp only[hC,dC];cases u.dS with
    |false=>rfl
    |true=>
     simp only[cond_true];cases Nat.blt t r with
     |false=>rfl
     |true=>
     simp only[cond_true];cases ai d id with
     |none=>rfl
     |some j=>
      simp only;cases fD (.osl u) j.2 with
      |none=>rfl
      |some g=>
       simp only;rw[kB];cases dC d f a as<;>rfl
  |ref id p=>cases p<;>rfl
  |_=>rfl
 |.n::a,e::as,b=>by
  cases e with
  |bu l=>
   simp only[hC,dC];cases pD l with
   |false=>rfl
   |true=>
    simp only[cond_true];rw[kB];cases dC d f a as<;>rfl
  |ref id p=>cases p<;>rfl
  |_=>rfl
 |.s C i::a,e::as,b=>by
  have x:∀g:Option (eY a),(g.bind λi=>b ((),i))=(g.map λi=>((),i)).bind b:=λg=>(by cases g<;>rfl);cases e with
  |ref id p=>cases p<;>(simp only[hC,dC];rw[kB];grind)
  |view id p t r=>cases p<;>(simp only[hC,dC];rw[kB];grind)
  |_=>simp only[hC,dC];rw[kB];exact x _
theorem CK {r:Type}:∀{ps:List eV} {a:eY ps} {b:gm ps r} {avs:List ah},dZ avs (ef ps a b)=ou avs ps
 |[],a,b,avs=>by cases avs with|nil=>rfl|cons h c=>cases h<;>first|rfl|(rename_i id p;cases p<;>rfl)|(rename_i id p c g;cases p<;>rfl)
 |p::c,a,b,[]=>by cases p<;>rfl
 |p::c,a,b,f::avs=>by have d:=λa b=>CK (r:=r) (ps:=c) (a:=a) (b:=b) (avs:=avs);cases p<;>cases f<;>first|exact d _ _|(rename_i id e;cases e<;>simp only[ef,dZ,ou,d];done)|(rename_i id e c g;cases e<;>simp only[ef,dZ,ou,d])
theorem mV {G:Type} {q:List (Nat×ay)} {u:cP}:∀{r:List eV} {e:eY r} {g:gm r G} {h:List ah},dC q u r h=some e->lv q u h (ef r e g)
 |[],e,g,[],_=>trivial
 |[],e,g,_::_,a=>by cases a
 |p::i,e,g,[],a=>by cases p<;>cases a
 |.v t::i,e,g,d::h,a=>by
  simp only[dC] at a;split at a
  case h_2=>cases a
  rename_i l j;obtain⟨k,b,rfl⟩:=dE.1 a;exact⟨by cases d<;>exact DP j,mV b⟩
 |.c F J::i,e,g,d::h,a=>by
  cases d with
  |bY E k=>
   simp only[dC] at a;cases f:Nat.beq E F with
   |false=>grind
   |true=>
    rw[f] at a;obtain rfl:=dU f;simp only[cond_true] at a;split at a
    case h_2=>cases a
    rename_i l j;obtain⟨I,b,rfl⟩:=dE.1 a;exact⟨⟨rfl,Fb j⟩,mV b⟩
  |ref id p=>cases p<;>cases a
  |_=>cases a
 |.m t::i,e,g,d::h,a=>by
  cases d with
  |ref id p=>cases p with
   |cons=>cases a
   |nil=>
    simp only[dC] at a;cases f:(t.dS&&oy t) with
    |false=>grind
    |true=>
     rw[f] at a;simp only[a2] at f;simp only[cond_true] at a;split at a
     case h_2=>cases a
     rename_i B A;split at a
     case h_2=>cases a
     rename_i l j;obtain⟨k,b,rfl⟩:=dE.1 a;refine⟨⟨?_,f.1,f.2⟩,mV b⟩;grind [hO]
  |_=>cases a
 |.o t::i,e,g,d::h,a=>by
  cases d with
  |ref id p=>cases p with
   |cons=>cases a
   |nil=>
    simp only[dC] at a;split at a
    case h_2=>cases a
    rename_i B A;split at a
    case h_2=>cases a
    rename_i l j;obtain⟨k,b,rfl⟩:=dE.1 a;refine⟨?_,mV b⟩;show ai q id=some _;grind [hO]
  |bu C=>
   simp only[dC] at a;split at a
   case h_2=>cases a
   rename_i l j;obtain⟨k,b,rfl⟩:=dE.1 a;exact⟨OY j,mV b⟩
  |_=>cases a
 |.w H::i,e,g,d::h,a=>by
  cases d with
  |view id p y x=>cases p with
   |cons=>cases a
   |nil=>
    simp only[dC] at a;cases f:H.dS with
    |false=>grind
    |true=>
     rw[f] at a;simp only[cond_true] at a;cases z:Nat.blt y x with
     |false=>grind
     |true=>
     rw[z] at a;simp only[cond_true] at a;split at a
     case h_2=>cases a
     rename_i B A;split at a
     case h_2=>cases a
     rename_i l j;obtain⟨k,b,rfl⟩:=dE.1 a;refine⟨⟨?_,⟨rfl,rfl⟩,ek z,f⟩,mV b⟩;grind [hO]
  |ref id p=>cases p<;>cases a
  |_=>cases a
 |.n::i,e,g,d::h,a=>by
  cases d with
  |bu C=>
   simp only[dC] at a;cases f:pD C with
   |false=>grind
   |true=>
    rw[f] at a;obtain⟨k,b,rfl⟩:=dE.1 a;exact⟨pD.ok f,mV b⟩
  |ref id p=>cases p<;>cases a
  |_=>cases a
 |.s D k::i,e,g,d::h,a=>by
  have a:(dC q u i h).map (λl=>(((),l):eY (.s D k::i)))=some e:=by
   cases d with
   |ref id p=>cases p<;>exact a
   |view id p y x=>cases p<;>exact a
   |_=>exact a
  obtain⟨l,b,rfl⟩:=dE.1 a;refine⟨?_,mV b⟩;cases d with
  |ref id p=>cases p<;>trivial
  |view id p y x=>cases p<;>trivial
  |_=>trivial
end
section
def jE:(τ:ae)->τ.den->List aM->(b:ae)->b.den->Option τ.den
 |τ,_,[],_,a=>fD τ a
 |.osl f,h,.idx g::c,b,a=>match h[g]? with
  |some k=>(jE f k c b a).map λe=>h.set g e
  |none=>none
 |.optr f,d,.deref::c,b,a=>jE f d c b a
 |.st f,d,.unst::c,b,a=>jE f d c b a
 |.pr i _,d,.fst::c,b,a=>(jE i d.1 c b a).map λe=>(e,d.2)
 |.pr _ j,d,.snd::c,b,a=>(jE j d.2 c b a).map λe=>(d.1,e)
 |_,_,_,_,_=>none
def Sf {b:n.den} {a:x.den}:jE n b [] x a=fD n a:=by cases n<;>rfl
def dg.OP {d:n.den} {a:x.den} {b:n.den} (c:fD n a=some b):dg n d [] x a b:=by cases hO c;cases n<;>exact⟨rfl,rfl⟩
def kb:∀{k:List aM} {τ:ae} {g:τ.den} {f:ae} {h:f.den} {j:τ.den},jE τ g k f h=some j->dg τ g k f h j
 |[],τ,g,f,h,j,c=>by rw[Sf] at c;exact dg.OP c
 |s::k,τ,g,f,h,j,c=>by
  cases τ<;>cases s<;>simp only[jE] at c<;>try (cases c;done)
  case osl.idx t i=>
   split at c
   ·rename_i l m;obtain⟨d,e,rfl⟩:=dE.1 c;exact⟨l,d,m,kb e,rfl⟩
   cases c
  case optr.deref t=>exact kb (τ:=t) c
  case st.unst t=>exact kb (τ:=t) c
  case pr.fst a b=>
   obtain⟨d,e,rfl⟩:=dE.1 c;exact⟨d,kb e,rfl⟩
  case pr.snd a b=>
   obtain⟨d,e,rfl⟩:=dE.1 c;exact⟨d,kb e,rfl⟩
def gW (a:Int):cL:=if 0<=a then some a.toNat else none
def OE {c:Int} (a:gW c=some b):c=(b:Int):=by
 unfold gW at a;split at a
 ·cases a;omega
 cases a
def bG (b:Nat) (a:Int):cL:=if 0<=a/\a.toNat<b then some a.toNat else none
def Fp {c:Int} (a:bG l c=some b):c=(b:Int)/\b<l:=by
 unfold bG at a;split at a
 ·cases a;omega
 cases a
def dd (a:Nat):Option Unit:=if a<=fi then some () else none
def sI {c:Unit} (a:dd b=some c):b<=fi:=by
 unfold dd at a;split at a
 ·assumption
 cases a
def gY (b:IntKind) (c a:Int):cK:=if a≠0 then some (b.wrap (c.tdiv a)) else none
def gn (b a:Int):cK:=if a≠0 then some (b.tmod a) else none
def fN (a:IntKind) (c b:Int):cK:=if 0<=b then some (a.wrap (c*2^min b.toNat a.bits)) else none
def df (b:IntKind) (c a:Int):cK:=if 0<=a then some (c.fdiv (2^min a.toNat b.bits)) else none
def bD (a:IntKind) (b c:Int):Int:=a.wrap (BitVec.ofInt a.bits b&&&BitVec.ofInt a.bits c).toNat
def dQ (a:IntKind) (b c:Int):Int:=a.wrap (BitVec.ofInt a.bits b|||BitVec.ofInt a.bits c).toNat
def pT (a:IntKind) (b c:Int):Int:=a.wrap (BitVec.ofInt a.bits b^^^BitVec.ofInt a.bits c).toNat
def J2 (a:IntKind) (b c:Int):Int:=a.wrap (BitVec.ofInt a.bits b&&&~~~BitVec.ofInt a.bits c).toNat
def rZ (c:Option ah) (a:Nat):cL:=
 match c with
 |none=>some a
 |some (.val (.int _) b)=>gW b
 |some _=>none
def wG {c:Option ah} (a:rZ c b=some l):o1 c b l:=by
 unfold rZ at a;unfold o1;split at a
 ·cases a;rfl
 ·exact OE a
 cases a
def g9 (b a c:Nat):Option Unit:=if b<=a/\a<=c then some () else none
def FE {c:Unit} (a:g9 l b W=some c):l<=b/\b<=W:=by
 unfold g9 at a;split at a
 ·assumption
 cases a
def y2 (_:Nat):Option Unit:=some ()
def fj (a b:Int):cL:=if 0<=a/\a<=b/\b<=(fi:Int) then some a.toNat else none
open Classical in
def lf {b:Type} (c:Nat) (d a:Option b):Option b:=if c=0 then if d=a then a else none else a
def ON {f g:Option a} {e:a} (c:lf b f g=some e):g=some e/\(b=0->f=some e):=by
 unfold lf at c;split at c
 ·split at c
  ·rename_i d;exact⟨c,λ_=>d.trans c⟩
  cases c
 rename_i d;exact⟨c,λh=>absurd h d⟩
def mN:cQ:=[0,1,28,2,29,14,24,3,30,22,20,15,25,17,4,8,31,27,13,23,21,19,16,7,26,12,18,6,11,5,10,9]
inductive zI where
 |da (av:ah)
 |opt (α:Type) (o:Option α) (f:α->ah)
 |new (α:Type) (o:Option α) (t:α->ay) (d:Nat)
 |no
def hP (tt:List (TypeId×ae)) (z:List (Nat×ae)) (k:List (Nat×ay)) (g:Operand->ah) (w:Nat) (v:Op):zI:=
 match v with
 |.binOp v _ b e _=>match g b,g e with
  |.val (.int c) b,.val (.int A) e=>if c=A then
   (match v with
   |.add=>.da (.val (.int c) (c.wrap (b+e)))
   |.sub=>.da (.val (.int c) (c.wrap (b-e)))
   |.mul=>.da (.val (.int c) (c.wrap (b*e)))
   |.quo=>.opt Int (gY c b e) (.val (.int c))
   |.rem=>.opt Int (gn b e) (.val (.int c))
   |.shl=>.opt Int (fN c b e) (.val (.int c))
   |.shr=>.opt Int (df c b e) (.val (.int c))
   |.and=>.da (.val (.int c) (bD c b e))
   |.or=>.da (.val (.int c) (dQ c b e))
   |.xor=>.da (.val (.int c) (pT c b e))
   |.andNot=>.da (.val (.int c) (J2 c b e))
   |_=>.no) else
   (match v with
   |.shl=>.opt Int (fN c b e) (.val (.int c))
   |.shr=>.opt Int (df c b e) (.val (.int c))
   |_=>.no)
  |_,_=>.no
 |.unOp .neg _ b=>match g b with
  |.val (.int c) b=>.da (.val (.int c) (c.wrap (0-b)))
  |_=>.no
 |.convert t p b=>match ai tt t,ai tt p,g b with
  |some (.int _),some (.int c),.val (.int _) b=>.da (.val (.int c) (c.wrap b))
  |_,_,_=>.no
 |.nilCheck b=>match g b with
  |.val (.ptr r a) b=>.opt a.den b λe=>.val (.ptr r a) (some e)
  |_=>.no
 |.indexAddr h b q=>match ey tt h,g q with
  |some i,.val (.int _) q=>match g b with
   |.val (.aU r a) j=>bif aS i a then .opt a.den (aQ j q) λe=>.val (.ptr r a) (some e) else .no
   |.ref id f=>match ai k id with
    |some d=>match dp d.1 f with
     |some (.osl a)=>bif aS i a then .opt Nat ((fo d.1 d.2 f (.osl a)).bind λj=>bG j.length q) λc=>.addr id (f++[.idx c]) else .no
     |_=>.no
    |none=>.no
   |.view id [] s u=>match ai k id with
    |some d=>match d.1 with
     |.osl a=>bif aS i a then .opt Nat (bG (u-s) q) λc=>.addr id [.idx (s+c)] else .no
     |_=>.no
    |none=>.no
   |_=>.no
  |_,_=>.no
 |.load h b=>match ai tt h with
  |some i=>match g b with
   |.addr id f=>match ai k id with
    |some d=>match dp d.1 f with
     |some a=>bif aS i a&&a.pure then .opt a.den (fo d.1 d.2 f a) λe=>.val a e else .no
     |none=>.no
    |none=>.no
   |.ref id f=>match ai k id with
    |some d=>match dp d.1 f with
     |some (.optr a)=>bif aS i a&&a.pure then .opt a.den (fo d.1 d.2 (f++[.deref]) a) λe=>.val a e else .no
     |_=>.no
    |none=>.no
   |.val (.ptr _ a) b=>bif aS i a then .opt a.den b λe=>.val a e else .no
   |_=>.no
  |none=>.no
 |.fieldAddr h b m=>match iL tt h,g b with
  |some i,.val (.ptr r (.st a)) b=>bif aS i a&&(dy a m).isSome then .opt a.den b λe=>(match nV a e m with
   |some n=>.val (.ptr r n.1) (some n.2)
   |none=>.dead) else .no
  |_,_=>.no
 |.slice h b s u none=>match ey tt h with
  |some i=>match g b with
   |.val (.aU r a) j=>bif aS i a then
    .opt cz ((rZ (s.map g) 0).bind λl=>(rZ (u.map g) j.length).bind λp=>(g9 l p j.length).map λ_=>(l,p)) (λn=>.val (.aU r a) ((j.take n.2).drop n.1)) else .no
   |.ref id f=>match ai k id with
    |some d=>match dp d.1 f with
     |some (.osl a)=>bif aS i a then
      .opt cz ((fo d.1 d.2 f (.osl a)).bind λj=>(rZ (s.map g) 0).bind λl=>(rZ (u.map g) j.length).bind λp=>(g9 l p j.length).bind λ_=>(y2 j.length).map λ_=>(l,p)) (λn=>.view id f n.1 n.2) else .no
     |_=>.no
    |none=>.no
   |_=>.no
  |none=>.no
 |.makeSlice h l o=>match ey tt h,ai z w,ai k w with
  |some i,some (.osl a),none=>match jj a,g l,g o with
   |some y,.val (.int _) l,.val (.int _) o=>bif aS i a&&Nat.ble a.size 2000 then
    .new Nat (fj l o) (λm=>⟨.osl a,List.replicate m y⟩) w else .no
   |_,_,_=>.no
  |_,_,_=>.no
 |.index h b q=>match ai tt h,g b,g q with
  |some .str,.bu (.string t),.val (.int _) m=>.opt Int (ng t m) (.val (.int .u8))
  |some .str,.val .str t,.val (.int _) m=>.opt Int (ng t m) (.val (.int .u8))
  |_,_,_=>.no
 |.lookup h b c B=>match im tt h,g b,g c with
  |some i,.ref id f,.val (.int .i64) c=>match ai k id with
   |some d=>match dp d.1 f with
    |some (.mp a)=>match jj a with
     |some y=>bif aS i a then .opt (Option (List (Int×a.den)×Nat)) (fo d.1 d.2 f (.mp a)) λx=>yD a x y c B else .no
     |none=>.no
    |_=>.no
   |none=>.no
  |_,_,_=>.no
 |.call o=>match o.callee,o.args.toList,o.argTypes.toList with
  |.builtin .len,[b],[h]=>match ey tt h,g b with
   |some _,.ref id f=>match ai k id with
    |some d=>match dp d.1 f with
     |some (.osl a)=>.opt (List a.den) (fo d.1 d.2 f (.osl a)) λj=>.val (.int .i64) (j.length:Int)
     |_=>.no
    |none=>.no
   |none,.ref id f=>match im tt h,ai k id with
    |some _,some d=>match dp d.1 f with
     |some (.mp a)=>.opt (Option (List (Int×a.den)×Nat)) (fo d.1 d.2 f (.mp a)) λx=>.val (.int .i64) (sL x)
     |_=>.no
    |_,_=>.no
   |_,_=>.no
  |_,_,_=>.no
 |_=>.no
def EV:∀{t:ae} {y:t.den} {b:Nat},(dy t b).isSome=true->∃d,nV t y b=some d
 |.pr e c,y,0,_=>⟨_,rfl⟩
 |.pr e c,y,b+1,a=>by
  simp only[dy] at a;split at a
  ·rename_i d f;exact EV (t:=c) (by rw[f];rfl)
  cases a
 |.int _,_,_,a=>by cases a
 |.bool,_,_,a=>by cases a
 |.str,_,_,a=>by cases a
 |.aU _ _,_,_,a=>by cases a
 |.ptr _ _,_,_,a=>by cases a
 |.osl _,_,_,a=>by cases a
 |.optr _,_,_,a=>by cases a
 |.st _,_,_,a=>by cases a
 |.nil,_,_,a=>by cases a
 |.bJ,_,_,a=>by cases a
def zI.K (g:zI) (b:ah->List (Nat×ay)->Prop):Prop:=
 match g with
 |.da e=>b e []
 |.opt _ c f=>∃a,c=some a/\b (f a) []
 |.new _ c h d=>∃a,c=some a/\b (.ref d []) [(d,h a)]
 |.no=>False
def AF {tt:List (TypeId×ae)} {R:ah->List (Nat×ay)->Prop} (a:(hP tt k e E b N).K R):(eD tt k e E b N).K R:=by
 unfold hP at a;split at a
 ·rename_i N r m j am;simp only[eD];split at a
  case h_2=>exact a.elim
  rename_i q m U j i W;simp only[i,W];split at a
  ·rename_i z;subst z;split at a
   ·simp only[i6,if_true];exact⟨_,⟨trivial,rfl⟩,a⟩
   ·simp only[i6,if_true];exact⟨_,⟨trivial,rfl⟩,a⟩
   ·simp only[i6,if_true];exact⟨_,⟨trivial,rfl⟩,a⟩
   ·obtain⟨x,g,f⟩:=a;unfold gY at g;split at g
    ·rename_i c;cases g;simp only[i6,if_true];exact⟨_,⟨c,rfl⟩,f⟩
    cases g
   ·obtain⟨x,g,f⟩:=a;unfold gn at g;split at g
    ·rename_i c;cases g;simp only[i6,if_true];exact⟨_,⟨c,rfl⟩,f⟩
    cases g
   ·obtain⟨x,g,f⟩:=a;unfold fN at g;split at g
    ·rename_i c;cases g;exact⟨_,⟨c,rfl⟩,f⟩
    cases g
   ·obtain⟨x,g,f⟩:=a;unfold df at g;split at g
    ·rename_i c;cases g;exact⟨_,⟨c,rfl⟩,f⟩
    cases g
   ·simp only[i6,if_true];exact⟨_,⟨trivial,rfl⟩,a⟩
   ·simp only[i6,if_true];exact⟨_,⟨trivial,rfl⟩,a⟩
   ·simp only[i6,if_true];exact⟨_,⟨trivial,rfl⟩,a⟩
   ·simp only[i6,if_true];exact⟨_,⟨trivial,rfl⟩,a⟩
   exact a.elim
  split at a
  ·obtain⟨x,g,f⟩:=a;unfold fN at g;split at g
   ·rename_i c;cases g;exact⟨_,⟨c,rfl⟩,f⟩
   cases g
  ·obtain⟨x,g,f⟩:=a;unfold df at g;split at g
   ·rename_i c;cases g;exact⟨_,⟨c,rfl⟩,f⟩
   cases g
  exact a.elim
 ·rename_i r m;simp only[eD];split at a
  case h_2=>exact a.elim
  rename_i q m i;rw[i];exact⟨_,rfl,a⟩
 ·rename_i V z m;simp only[eD,wL];split at a
  case h_2=>exact a.elim
  rename_i U q ap m aj o i;rw[aj,o,i];exact⟨_,rfl,a⟩
 ·rename_i m;simp only[eD,ra];split at a
  case h_2=>exact a.elim
  rename_i G h m i;rw[i];obtain⟨j,rfl,f⟩:=a;exact⟨j,rfl,f⟩
 ·rename_i r m T;simp only[eD,qW];split at a
  case h_2=>exact a.elim
  rename_i l q T aj o;rw[aj,o];simp only;split at a
  ·rename_i G h F i;rw[i];simp only;cases d:aS l h with
   |false=>rw[d] at a;exact a.elim
   |true=>
   rw[d] at a;obtain⟨j,c,f⟩:=a;exact⟨j,c,f⟩
  ·rename_i id B i;rw[i];simp only;split at a
   case h_2=>exact a.elim
   rename_i t n;rw[n];simp only;split at a
   case h_2=>exact a.elim
   rename_i h p;rw[p];simp only;cases d:aS l h with
   |false=>rw[d] at a;exact a.elim
   |true=>
   rw[d] at a;obtain⟨j,c,f⟩:=a;obtain⟨F,P,c⟩:=bP.1 c;obtain⟨u,v⟩:=Fp c;exact⟨(F,j),⟨gi P,u,v⟩,f⟩
  ·rename_i id Z X i;rw[i];simp only;split at a
   case h_2=>exact a.elim
   rename_i t n;obtain⟨a3,m⟩:=t;rw[n];simp only at a|-;split at a
   case h_2=>exact a.elim
   rename_i h;simp only[dp];cases d:aS l h with
   |false=>rw[d] at a;exact a.elim
   |true=>
   rw[d] at a;obtain⟨q,Y,f⟩:=a;obtain⟨u,v⟩:=Fp Y;exact⟨(m,q),⟨⟨rfl,rfl⟩,u,v⟩,f⟩
  exact a.elim
 ·rename_i r m;simp only[eD,q2];split at a
  case h_2=>exact a.elim
  rename_i l aj;rw[aj];simp only;split at a
  ·rename_i id B i;rw[i];simp only;split at a
   case h_2=>exact a.elim
   rename_i t n;rw[n];simp only;split at a
   case h_2=>exact a.elim
   rename_i h p;rw[p];simp only[rf];cases d:(aS l h&&h.pure) with
   |false=>rw[d] at a;exact a.elim
   |true=>
   rw[d] at a;simp only[a2] at d;rw[d.1,d.2];obtain⟨j,c,f⟩:=a;exact⟨j,gi c,f⟩
  ·rename_i id B i;rw[i];simp only;split at a
   case h_2=>exact a.elim
   rename_i t n;rw[n];simp only;split at a
   case h_2=>exact a.elim
   rename_i h p;rw[p];simp only[rf];cases d:(aS l h&&h.pure) with
   |false=>rw[d] at a;exact a.elim
   |true=>
   rw[d] at a;simp only[a2] at d;rw[d.1,d.2];obtain⟨j,c,f⟩:=a;exact⟨j,gi c,f⟩
  ·rename_i G h m i;rw[i];cases d:aS l h with
   |false=>rw[d] at a;exact a.elim
   |true=>
   rw[d] at a;obtain⟨j,rfl,f⟩:=a;simp only[d,cond_true];exact f
  exact a.elim
 ·rename_i r m Q;simp only[eD,qR];split at a
  case h_2=>exact a.elim
  rename_i l G h m aj i;rw[aj,i];cases d:(aS l h&&(dy h Q).isSome) with
  |false=>rw[d] at a;exact a.elim
  |true=>
  rw[d] at a;simp only[a2] at d;obtain⟨j,rfl,f⟩:=a;obtain⟨a0,S⟩:=EV (y:=j) d.2;simp only[S] at f;simp only[d.1,cond_true,S];exact f
 ·rename_i r m Z X;simp only[eD,rm];split at a
  case h_2=>exact a.elim
  rename_i l aj;rw[aj];simp only;split at a
  ·rename_i G h F i;rw[i];simp only;cases d:aS l h with
   |false=>rw[d] at a;exact a.elim
   |true=>
   rw[d] at a;obtain⟨j,c,f⟩:=a;obtain⟨w,M,c⟩:=bP.1 c;obtain⟨z,L,c⟩:=bP.1 c;obtain⟨ad,O,rfl⟩:=dE.1 c;obtain⟨u,v⟩:=FE O;exact⟨(w,z),⟨wG M,wG L,u,v⟩,f⟩
  ·rename_i id B i;rw[i];simp only;split at a
   case h_2=>exact a.elim
   rename_i t n;rw[n];simp only;split at a
   case h_2=>exact a.elim
   rename_i h p;rw[p];simp only;cases d:aS l h with
   |false=>rw[d] at a;exact a.elim
   |true=>
   rw[d] at a;obtain⟨j,c,f⟩:=a;obtain⟨F,P,c⟩:=bP.1 c;obtain⟨w,M,c⟩:=bP.1 c;obtain⟨z,L,c⟩:=bP.1 c;obtain⟨ad,O,c⟩:=bP.1 c;obtain⟨dz,an,rfl⟩:=dE.1 c;obtain⟨u,v⟩:=FE O;exact⟨(F,w,z),⟨gi P,wG M,wG L,u,v⟩,f⟩
  exact a.elim
 ·rename_i r w C;simp only[eD,q5];split at a
  case h_2=>exact a.elim
  rename_i l h aj o s;rw[aj,o,s];simp only;split at a
  case h_2=>exact a.elim
  rename_i x q w U C A D I;rw[A,D,I];simp only;cases d:(aS l h&&Nat.ble h.size 2000) with
  |false=>rw[d] at a;exact a.elim
  |true=>
  rw[d] at a;obtain⟨j,c,f⟩:=a;unfold fj at c;split at c
  ·rename_i J;cases c;exact⟨(w.toNat,C.toNat),⟨(Int.toNat_of_nonneg J.1).symm,(Int.toNat_of_nonneg (Int.le_trans J.1 J.2.1)).symm,by show w.toNat<=C.toNat;omega,by show C.toNat<=fi;omega⟩,f⟩
  cases c
 ·rename_i r m T;simp only[eD,zn];split at a
  ·rename_i V q Q aj o s;rw[aj,o,s];obtain⟨H,d,f⟩:=a;exact⟨H,d,f⟩
  ·rename_i V q Q aj o s;rw[aj,o,s];obtain⟨H,d,f⟩:=a;exact⟨H,d,f⟩
  exact a.elim
 ·rename_i r m q av;simp only[eD,q3];split at a
  case h_2=>exact a.elim
  rename_i l id B q aj o s;rw[aj,o,s];simp only;split at a
  case h_2=>exact a.elim
  rename_i t n;rw[n];simp only;split at a
  case h_2=>exact a.elim
  rename_i h p;rw[p];simp only;split at a
  case h_2=>exact a.elim
  rename_i x g;rw[g];simp only;cases d:aS l h with
  |false=>rw[d] at a;exact a.elim
  |true=>
  rw[d] at a;obtain⟨j,c,f⟩:=a;exact⟨j,gi c,f⟩
 ·rename_i C;simp only[eD];split at a
  ·rename_i m r aj o s;rw[aj,o,s];simp only;split at a
   ·rename_i l id B A D;rw[A,D];simp only[q1,A];split at a
    case h_2=>exact a.elim
    rename_i t n;rw[n];simp only;split at a
    case h_2=>exact a.elim
    rename_i h p;rw[p];obtain⟨j,c,f⟩:=a;exact⟨j,gi c,f⟩
   ·rename_i id B A D;rw[A,D];simp only[q7];split at a
    case h_2=>exact a.elim
    rename_i l t I n;rw[I,n];simp only;split at a
    case h_2=>exact a.elim
    rename_i h p;rw[p];obtain⟨j,c,f⟩:=a;exact⟨j,gi c,f⟩
   exact a.elim
  exact a.elim
 exact a.elim
def iF {e:Type} (c d:List e) (a b:Nat):List e:=c.take a++(d.take (b-a)++c.drop (a+min d.length (b-a)))
end
section
def u9:ah->Bool
 |.val _ _=>true
 |_=>false
def Bl:ah->Bool
 |.val _ _=>true
 |.bY _ a=>a.all u9
 |_=>false
def Bm (b:Bl d=true):∀id∈d.ids,False:=by
 intro id a;cases d with
 |val g f=>simp[ah.ids] at a
 |bY h c=>
  have b:c.all u9=true:=b;have:∀c:List ah,c.all u9=true->∀id∈ah.k7 c,False:=by
   intro c
   induction c with
   |nil=>intro _ id a;simp[ah.k7] at a
   |cons d c e=>
    intro b id a;simp only[p0,a2] at b;simp only[ah.k7,eR] at a;rcases a with a|a
    ·cases d with
     |val g f=>simp[ah.ids] at a
     |_=>cases b.1
    exact e b.2 id a
  exact this c b id a
 |_=>cases b
def mz (C:c8) (c:List (Nat×ah)):Prop:=
 (∀a,C.I0 a\/C.B a->a<C.w0.heap.size/\¬C.F0 a)/\
 ∀b∈c,b.1∈C.pin/\Bl b.2=true/\bk (aY C.I0 C.B) C.w0 [] (λ_=>[]) (λ_=>[]) b.2 (C.vs b.1)
section
variable {E:dA} {C:c8}
def mz.nil (b:∀a,C.I0 a\/C.B a->a<C.w0.heap.size/\¬C.F0 a):mz C []:=⟨b,λc b=>by cases b⟩
def MX (b c:List (Nat×ah)) (a:Nat):gt (b++c) a=match ai b a with|some d=>d|none=>gt c a:=by unfold gt;rw[hQ];cases ai b a<;>rfl
def vc {e:Type}:∀{c:List (Nat×e)} {b:Nat} {d:e},ai c b=some d->(b,d)∈c
 |[],_,_,a=>by cases a
 |(g,v0)::c,b,d,a=>by
  rw[bv] at a;split at a
  ·rename_i f;cases a;subst f;exact lD ..
  exact eH _ (vc a)
def ev.kg (f:mz C D) {j:cH} (n:ev C i j v):ev C ⟨D++i.g,i.h⟩ j v:=by
 obtain⟨k,w,m,b⟩:=n;refine⟨k,w,m,{b with tmp:=λc=>?_}⟩;show bk _ _ _ _ _ (gt (D++i.g) c) _;rw[MX];split
 ·rename_i l s;obtain⟨o,p,d⟩:=f.2 _ (vc s);have d:bk (aY C.I0 C.B) C.w0 [] (λ_=>[]) (λ_=>[]) l (C.vs c):=d;rw[b.pin c o];refine d.pB (λt a e=>?_) (λid r=>(Bm p id r).elim);have q:C.I0 a\/C.B a:=kF e;obtain⟨ao,u⟩:=f.1 a q;refine⟨?_,br.of_heap (b.frame a ao u)⟩;cases t
  ·exact b.i0 a e
  exact e.imp (b.i0 a) id
 exact b.tmp c
def J.kg {d:List (Nat×ah)} (k:mz C d) {c:Code} {a:aA} {b:Exit->aA->Prop} (f:J E C c ⟨d++a.g,a.h⟩ b):J E C c a b:=
 λe l i j=>f e l (i.kg k) j
def po (a:List (Nat×ah)):cP->Option (List (Nat×ah))
 |[]=>some []
 |k::c=>match gt a k with
  |.val g f=>(po a c).map λb=>(k,.val g f)::b
  |.bY e d=>bif d.all u9 then(po a c).map λb=>(k,.bY e d)::b else none
  |_=>none
def Bg {l:List (Nat×ah)}:∀{j:cP} {d:List (Nat×ah)},po l j=some d->∀c∈d,c.1∈j/\Bl c.2=true/\gt l c.1=c.2
 |[],d,a,c,b=>by cases a;cases b
 |k::j,d,a,c,b=>by
  simp only[po] at a;split at a
  ·rename_i q p i;obtain⟨n,h,rfl⟩:=dE.1 a;rcases dw.1 b with rfl|b
   ·exact⟨lD ..,rfl,i⟩
   obtain⟨e,f⟩:=Bg h c b;exact⟨eH _ e,f⟩
  ·rename_i o m i;cases g:m.all u9 with
   |false=>rw[g] at a;cases a
   |true=>
   rw[g] at a;obtain⟨n,h,rfl⟩:=dE.1 a;rcases dw.1 b with rfl|b
   ·exact⟨lD ..,g,i⟩
   obtain⟨e,f⟩:=Bg h c b;exact⟨eH _ e,f⟩
  cases a
def J.keep {N:Code} {L:List (Nat×ah)} {M:Exit->aA->Prop} (q:mz C D) (ap:po i.g y=some L) (d:∀k:c8,k.n=C.n->k.pin=y++C.pin->mz k (L++D)->(∀t,qf C t->qf k t)->(iw E C.I0 C.w0->iw E k.I0 k.w0)->J E k N i M):J E C N i M:=by
 rintro u x ⟨z,P,A,b⟩ Z
 let k:c8:={I0:=z,B:=C.B,F0:=λa=>∃id e,ai i.h id=some e/\a∈A id,w0:=x,n:=C.n,pin:=y++C.pin,vs:=λp=>u.tmps.getD p undef}
 have X:bg k i u.tmps x z P A:=
  {n:=b.n,i0:=λ_ d=>d,i1:=λ_ d=>.inl d,ib:=b.ib,tree:=λid e j=>⟨(b.tree id e j).1,(b.tree id e j).2.1,λa c=>⟨((b.tree id e j).2.2 a c).1,((b.tree id e j).2.2 a c).2.1,((b.tree id e j).2.2 a c).2.2.1,.inr ⟨id,e,j,c⟩⟩⟩,dis:=b.dis,tmp:=b.tmp,frame:=λ_ _ _=>rfl,evo:=λ_ _=>.refl _ _,size:=aZ _,os:=rfl,tape:=rfl,output:=rfl,pin:=λp _=>rfl}
 have an:mz k (L++D):=by
  refine⟨λa c=>⟨b.ib a c,?_⟩,λw o=>?_⟩
  ·rintro⟨id,e,j,Y⟩;obtain⟨ao,s,_⟩:=(b.tree id e j).2.2 a Y;exact c.elim ao s
  rcases eR.1 o with o|o
  ·obtain⟨l,m,F⟩:=Bg ap w o;refine⟨eR.2 (.inl l),m,?_⟩;have:=b.tmp w.1;rw[F] at this;exact this.pB (λO a r=>⟨r,br.refl _ _⟩) (λid H=>(Bm m id H).elim)
  obtain⟨l,m,F⟩:=q.2 w o;refine⟨eR.2 (.inr l),m,?_⟩;show bk _ _ _ _ _ _ (u.tmps.getD w.1 undef);rw[b.pin _ l];refine F.pB (λO a r=>?_) (λid H=>(Bm m id H).elim);obtain⟨ao,s⟩:=q.1 a (kF r);refine⟨?_,br.of_heap (b.frame a ao s)⟩;cases O
  ·exact b.i0 a r
  exact r.imp (b.i0 a) id
 have a0:∀t,qf C t->qf k t:=by
  rintro(_|⟨p,d1,d2⟩) av
  ·trivial
  obtain⟨Q,R,a,K,dl,ci,S,T,co,cs⟩:=av;refine⟨kl _ Q,λv I=>kl _ (R v I),a,K,dl,(b.pin p Q).trans ci,fA S b.size,?_,?_,?_⟩
  ·rintro⟨id,e,j,c⟩;rcases((b.tree id e j).2.2 a c).2.2.2 with l|l
   ·omega
   exact T l
  ·have c:=b.frame a S T;rw[<-co];unfold World.cell?;rw[show x.heap[(⟨a,K,none⟩:Addr).block]?=C.w0.heap[(⟨a,K,none⟩:Addr).block]? from c]
  rw[cs];exact hu λv I=>(b.pin v (R v I)).symm
 refine wp_mono (d k rfl rfl an a0 (λW=>b.glob q.1 W) u x ⟨z,P,A,X⟩ Z) ?_;rintro d0 ds d3 ⟨cv,o,⟨U,ce,V,f⟩,ad⟩;have G:∀a,k.F0 a->C.w0.heap.size<=a\/C.F0 a:=(by rintro a ⟨id,e,j,c⟩;exact((b.tree id e j).2.2 a c).2.2.2);refine⟨cv,o,⟨U,ce,V,?_⟩,ad⟩;refine{n:=f.n,i0:=λa c=>f.i0 a (b.i0 a c),i1:=λa c=>?_,ib:=f.ib,tree:=λid e j=>?_,dis:=f.dis,tmp:=f.tmp,frame:=λa l m=>?_,evo:=λa c=>(b.evo a c).trans (f.evo a (fA c b.size)),size:=bj b.size f.size,os:=f.os.trans b.os,tape:=f.tape.trans b.tape,output:=f.output.trans b.output,pin:=λp q=>?_}
 ·rcases f.i1 a c with d|d|d
  ·exact b.i1 a d
  ·exact .inr (.inl (bj b.size d))
  exact .inr (G a d)
 ·obtain⟨ao,s,a3⟩:=f.tree id e j;refine⟨ao,s,λa c=>?_⟩;obtain⟨a4,bl,bs,aT⟩:=a3 a c;refine⟨a4,bl,bs,?_⟩;rcases aT with d|d
  ·exact .inl (bj b.size d)
  exact G a d
 ·refine(f.frame a (fA l b.size) ?_).trans (b.frame a l m);intro am;rcases G a am with d|d
  ·omega
  exact m d
 rw[f.pin p (eR.2 (.inr q))];exact b.pin p q
end
end
structure ba where
 d:Option (Nat×ah)
 S:cP
 keep:List (Nat×List aM)
 put:List (Nat×ay)
variable{p:ba}
def kD (a:cP) (c:List (Nat×List aM)) (b:List (Nat×ah)):List (Nat×ah):=match a with
 |[]=>b
 |_=>kill a c b
def nR (a:cP) (b:List (Nat×ay)):List (Nat×ay):=match a with
 |[]=>b
 |_=>del a b
def ba.app (a:ba) (b:aA):aA:=⟨match a.d with
 |some c=>c::kD a.S a.keep b.g
 |none=>kD a.S a.keep b.g,a.put++nR a.S b.h⟩
def Nw (d:List (Nat×List aM)) (a:ah):dI [] d a=a:=by
 have b:∀a,dj [] d a=a:=λa=>(by have:(a.ids.any λc=>bU c [])=false:=(by rw[rG];intro c _;simp[bU]);simp only[dj,ah.dB,this,Bool.false_and,cond_false]);cases a with
 |dh e=>simp only[dI,hu (λa _=>b a),List.map_id']
 |_=>exact b _
def Fx (c:List (Nat×List aM)):∀b:List (Nat×ah),kill [] c b=b
 |[]=>rfl
 |(k,a)::b=>by have:=Fx c b;simp only[kill,eG,Nw] at this|-;rw[this]
def Eo:∀a:List (Nat×ay),del [] a=a
 |[]=>rfl
 |x::a=>by have:=Eo a;simp only[del] at this|-;rw[kV,ak (by simp[bU]),this]
theorem pp (a:cP) (c:List (Nat×List aM)) (b:List (Nat×ah)):kD a c b=kill a c b:=by
 cases a
 ·exact(Fx c b).symm
 rfl
theorem so (a:cP) (b:List (Nat×ay)):nR a b=del a b:=by
 cases a
 ·exact(Eo b).symm
 rfl
def ot {k:Type} (tt:List (TypeId×ae)) (f:List (Nat×ay)) (m:TypeId) (q v:ah) (e:ba->Option k):Option k:=
 match oe f q with
 |none=>none
 |some (
  id,p)=>match ai f id,ai tt m with
  |some a,some o=>match dp a.1 p with
   |none=>none
   |some b=>bif aS o b then match v with
    |.ref c g=>match ai f c with
     |some l=>bif Nat.beq id c then none else(fo l.1 l.2 g b).bind λh=>(jE a.1 a.2 p b h).bind λd=>e ⟨none,[id,c],[(id,p)],[(id,⟨a.1,d⟩)]⟩
     |none=>none
    |.app c g i j n=>match fD (τ:=.osl i) b j with
     |some _=>bif Nat.beq c id&&ja g p then(fo a.1 a.2 p (.osl i)).bind λr=>(jE a.1 a.2 p (.osl i) (r++j)).bind λd=>e ⟨none,id::n,[(id,p)],[(id,⟨a.1,d⟩)]⟩ else none
     |none=>none
    |v=>match coe b v with
     |some h=>(jE a.1 a.2 p b h).bind λd=>e ⟨none,[id],[(id,p)],[(id,⟨a.1,d⟩)]⟩
     |none=>none
   else none
  |_,_=>none
theorem SH {s:a} {o:ba->Option a} {tt:List (TypeId×ae)} (b:ot tt i.h c t d o=some s) (m:∀p,o p=some s->u (p.app i)):(zm tt i c t d).K u:=by
 unfold ot at b;unfold zm;split at b
 ·cases b
 rename_i id F A;rw[A];simp only;split at b
 case h_2=>cases b
 rename_i L G B z;obtain⟨O,N⟩:=L;rw[B,z];simp only at b|-;split at b
 ·cases b
 rename_i I E;rw[E];simp only;cases q:aS G I with
 |false=>rw[q] at b;cases b
 |true=>
 rw[q] at b;simp only[cond_true] at b|-;split at b
 ·rename_i f g;split at b
  case h_2=>cases b
  rename_i J C;obtain⟨P,M⟩:=J;cases e:Nat.beq id f with
  |true=>rw[e] at b;cases b
  |false=>
  rw[e] at b;obtain⟨n,j,b⟩:=bP.1 b;obtain⟨l,k,b⟩:=bP.1 b;simp only[C,e,cond_false];exact⟨(n,l),⟨gi j,kb k⟩,m _ b⟩
 ·rename_i f g w v r;split at b
  case h_2=>cases b
  rename_i n j;cases hO j;cases e:(Nat.beq f id&&ja g F) with
  |false=>rw[e] at b;cases b
  |true=>
  rw[e] at b;simp only[a2] at e;obtain⟨H,D,b⟩:=bP.1 b;obtain⟨l,k,b⟩:=bP.1 b;simp only[dif_pos];exact⟨(H,l),⟨dU e.1,ja.ok e.2,gi D,kb k⟩,m _ b⟩
 rename_i d x y;split at b
 case h_2=>cases b
 rename_i n j;obtain⟨l,k,b⟩:=bP.1 b;split
 ·rename_i f g;exact(x f g rfl).elim
 ·rename_i f g w v r;exact(y f g w v r rfl).elim
 rw[j];exact⟨l,kb k,m _ b⟩
def iv (e:List (Nat×ay)) (a:ae) (i:ah):Option (List a.den):=
 match i with
 |.val (.aU _ h) d=>fD (τ:=.osl h) (.osl a) d
 |.bu (.slice none 0 0)=>some []
 |.ref id c=>match ai e id with
  |some b=>bif a.pure then fo b.1 b.2 c (.osl a) else none
  |none=>none
 |.view id c g f=>match ai e id with
  |some b=>bif a.pure then(fo b.1 b.2 c (.osl a)).bind λd=>some ((d.take f).drop g) else none
  |none=>none
 |_=>none
def i5.zD {c:ae} (e:i5 c) (b:List c.den):Prop:=
 match e with
 |.da f=>f=b
 |.part _ g d=>∃a,g a/\d a=b
 |.bad=>False
def vY {f:List n.den} (a:iv e n d=some f):(oA e n d).zD f:=by
 unfold iv at a;unfold oA;split at a
 ·rename_i p q h;cases hO a;simp only[dif_pos];rfl
 ·cases a;rfl
 ·rename_i id j;split at a
  case h_2=>cases a
  rename_i g c;obtain⟨l,k⟩:=g;simp only[c];cases b:n.pure with
  |false=>rw[b] at a;cases a
  |true=>rw[b] at a;exact⟨f,gi a,rfl⟩
 ·rename_i id j o m;split at a
  case h_2=>cases a
  rename_i g c;obtain⟨l,k⟩:=g;simp only[c];cases b:n.pure with
  |false=>rw[b] at a;cases a
  |true=>
   rw[b] at a;obtain⟨h,i,a⟩:=bP.1 a;cases a;exact⟨h,gi i,rfl⟩
 cases a
def i5.zD.to {d:ae} {c:i5 d} {a:List d.den} (b:c.zD a) {g:Nat->Prop} {f:List d.den->aA} {e:aA->Prop} (h:g a.length) (i:e (f a)):(c.to g f).K e:=by
 cases c with
 |da l=>obtain rfl:l=a:=b;exact⟨(),h,i⟩
 |part n o m=>obtain⟨k,j,rfl⟩:=b;exact⟨k,⟨j,h⟩,i⟩
 |bad=>exact b.elim
def lM {n:Type} (tt:List (TypeId×ae)) (p:List (Nat×ae)) (d:List (Nat×ay)) (b:Nat) (o:TypeId) (q g:ah) (f:ba->Option n):Option n:=
 match ey tt o with
 |none=>none
 |some i=>
  match q with
  |.ref id []=>match ai d id with
   |some ⟨.osl a,e⟩=>bif aS i a&&Nat.ble a.size 1300 then
    match a.pure with
    |true=>(iv d a g).bind λc=>(dd (e.length+c.length)).bind λ_=>f ⟨some (b,.ref b []),[id,b],[],[(b,⟨.osl a,e++c⟩)]⟩
    |false=>match g with
     |.ref k []=>match ai d k with
      |some r=>match fD (.osl a) r.2 with
       |some c=>bif Nat.beq id k then none else(dd (e.length+List.length (α:=a.den) c)).bind λ_=>f ⟨some (b,.ref b []),[id,k,b],[],[(b,⟨.osl a,List.append (α:=a.den) e c⟩)]⟩
       |none=>none
      |none=>none
     |_=>none
    else none
   |_=>none
  |.ref id h=>match ai d id,ai d b with
   |some j,none=>match dp j.1 h with
    |some (.osl a)=>bif aS i a&&Nat.ble a.size 1300&&a.hR then
     (fo j.1 j.2 h (.osl a)).bind λe=>(iv d a g).bind λc=>(dd (List.length (α:=a.den) e+c.length)).bind λ_=>
      f ⟨some (b,.app id h a c [b]),[id],[(id,h),(id,[])],[(b,⟨.bJ,()⟩),(id,j)]⟩
     else none
    |_=>none
   |_,_=>none
  |.view id [] m l=>match ai d id with
   |some ⟨.osl a,e⟩=>bif aS i a&&Nat.ble a.size 1300 then
    (iv d a g).bind λc=>(dd (List.length (α:=a.den) ((e.take l).drop m)+c.length)).bind λ_=>f ⟨some (b,.ref b []),[id,b],[],[(b,⟨.osl a,(e.take l).drop m++c⟩)]⟩
    else none
   |_=>none
  |.bu (.slice none 0 0)=>match ai p b with
   |some (.osl a)=>bif aS i a&&Nat.ble a.size 1300 then
    (iv d a g).bind λc=>(dd c.length).bind λ_=>f ⟨some (b,.ref b []),[b],[],[(b,⟨.osl a,c⟩)]⟩
    else none
   |_=>none
  |_=>none
def J9 {A:a} {x:ba->Option a} {tt:List (TypeId×ae)} (e:lM tt k i.h b c d t x=some A) (m:∀y,x y=some A->u (y.app i)):(wB tt k i b c d t).K u:=by
 unfold lM at e;unfold wB;split at e
 ·cases e
 rename_i s F;rw[F];simp only;split at e
 ·rename_i id;simp only;split at e
  case h_2=>cases e
  rename_i l v o;rw[o];simp only;cases g:(aS s l&&Nat.ble l.size 1300) with
  |false=>rw[g] at e;cases e
  |true=>
  rw[g] at e;simp only[cond_true] at e|-;split at e
  ·rename_i n;rw[n];obtain⟨q,f,e⟩:=bP.1 e;obtain⟨_,j,e⟩:=bP.1 e;exact(vY f).to (sI j) (m _ e)
  rename_i n;rw[n];split at e
  case h_2=>cases e
  rename_i H;split at e
  case h_2=>cases e
  rename_i M E;obtain⟨V,R⟩:=M;split at e
  case h_2=>cases e
  rename_i q f;cases hO f;cases w:Nat.beq id H with
  |true=>rw[w] at e;cases e
  |false=>
  rw[w] at e;obtain⟨_,j,e⟩:=bP.1 e;simp only[E,dif_pos,w,cond_false];exact⟨(),sI j,m _ e⟩
 ·rename_i id z n;split at e
  case h_2=>cases e
  rename_i L o D;obtain⟨U,S⟩:=L;simp only at e;split at e
  case h_2=>cases e
  rename_i l G;cases g:(aS s l&&Nat.ble l.size 1300&&l.hR) with
  |false=>rw[g] at e;cases e
  |true=>
  rw[g] at e;obtain⟨v,r,e⟩:=bP.1 e;obtain⟨q,f,e⟩:=bP.1 e;obtain⟨_,j,e⟩:=bP.1 e;have j:=sI j;have f:=vY f;have r:=gi r;cases z with
  |nil=>exact(n rfl).elim
  |cons Q z=>
  simp only[o,D,G,g,cond_true];split
  ·rename_i J p;rw[p] at f;obtain rfl:J=q:=f;exact⟨v,⟨r,j⟩,m _ e⟩
  ·rename_i T W N p;rw[p] at f;obtain⟨I,B,rfl⟩:=f;exact⟨(v,I),⟨r,B,j⟩,m _ e⟩
  rename_i p;rw[p] at f;exact f.elim
 ·rename_i id P O;simp only;split at e
  case h_2=>cases e
  rename_i l v o;rw[o];simp only;cases g:(aS s l&&Nat.ble l.size 1300) with
  |false=>rw[g] at e;cases e
  |true=>
  rw[g] at e;simp only[cond_true] at e|-;obtain⟨q,f,e⟩:=bP.1 e;obtain⟨_,j,e⟩:=bP.1 e;exact(vY f).to (sI j) (m _ e)
 ·simp only;split at e
  case h_2=>cases e
  rename_i l C;rw[C];simp only;cases g:(aS s l&&Nat.ble l.size 1300) with
  |false=>rw[g] at e;cases e
  |true=>
  rw[g] at e;simp only[cond_true] at e|-;obtain⟨q,f,e⟩:=bP.1 e;obtain⟨_,j,e⟩:=bP.1 e;exact(vY f).to (sI j) (m _ e)
 cases e
def mM (d:List (Nat×ae)) (c:List (Nat×ay)) (a:Nat) (h:ah):Option ba:=
 match h with
 |.ref id []=>match ai c id with
  |some b=>some ⟨some (a,.ref a []),[id,a],[],[(a,b)]⟩
  |none=>none
 |.ref id g=>bif Nat.beq id a then none else some ⟨some (a,.ref id g),[a],[],[]⟩
 |.view id [] f e=>match ai c id with
  |some ⟨.osl b,i⟩=>some ⟨some (a,.ref a []),[id,a],[],[(a,⟨.osl b,(i.take e).drop f⟩)]⟩
  |_=>none
 |.bu (.slice none 0 0)=>match ai d a with
  |some (.osl b)=>some ⟨some (a,.ref a []),[a],[],[(a,⟨.osl b,[]⟩)]⟩
  |_=>none
 |_=>none
def Kj (a:mM k i.h b d=some p) (e:u (p.app i)):(wD k i b d).K u:=by
 unfold mM at a;unfold wD;split at a
 ·split at a
  ·rename_i j c;cases a;simp only[c];exact e
  cases a
 ·rename_i id g l;cases f:Nat.beq id b with
  |true=>rw[f] at a;cases a
  |false=>
  rw[f] at a;cases a;cases g with
  |nil=>exact(l rfl).elim
  |cons m g=>simp only[f,cond_false];exact e
 ·split at a
  ·rename_i j n c;cases a;simp only[c];exact e
  cases a
 ·split at a
  ·rename_i j c;cases a;simp only[c];exact e
  cases a
 cases a
section
section
variable {E:dA} {C:c8} {st:aA} {a:Act} {w w':World} {I:Nat->Prop} {rt:Nat->cJ} {fp:Nat->cP} {o:Oper} {Q:aA->Prop}
def c5.own {S:cP} {t:ay} {cs:cJ} {f:cP} {v:Value} {next:Act->World->Prop} {u:Exit->Act->World->Prop} (A:o.dst=some b) (F:C.ok b) (m:bg C st a.tmps w I rt fp) (J:∀r l w',Q r->l.defers=a.defers->ev C r l.tmps w'->next l w') (D:b∈S\/ai st.h b=none) (M:(execOp a.eval o).run E.P w=.ok (.value v) w') (e:fw w w') (N:v=bn t.1 cs) (L:aD (aY I C.B) w' t.1 cs t.2 f) (G:f.Nodup) (j:∀c∈f,(w.heap.size<=c/\c<w'.heap.size)\/∃q∈S,∃R,ai st.h q=some R/\c∈fp q) (K:Q ⟨(b,.ref b [])::kill S [] st.g,(b,t)::del S st.h⟩):o.wp E.P a w next u:=by
 have k:=m.e0 (kr.one (st:=st) (C:=C) (rt:=rt) (w':=w') (I':=I) (S:=S) (d:=b) (t:=t) (cs:=cs) (f:=f) D e.size e.os e.tape e.output (λc j _=>e.heap c j) (λc j=>(br.of_heap (e.heap c j)).2) (λ_ i=>i) (λ_ i=>.inl i) L G (λc z=>by
  rcases j c z with⟨x,y⟩|⟨p,H,s,k,n⟩
  ·exact⟨λi=>by have:=m.ib c (.inl i);omega,y,.inl x⟩
  obtain⟨ao,T,O,U⟩:=(m.tree p s k).2.2 c n;exact⟨ao,fA O e.size,.inr ⟨p,H,s,k,n⟩⟩))
 unfold Oper.wp;rw[M];show next (a.put o.dst v) w'
 rw[A];refine J _ _ _ K rfl ⟨_,_,_,k.put F (av:=.ref b []) ?_⟩;rw[N];refine .ref (t:=t) (loc:=none) (by rw[hQ,bv,ak rfl];rfl) ?_;rw[yK];exact aF.here
def s3 (e:List (Nat×ay)) (a:ae):ah->Option (ay×cP)
 |.val d b=>bif aS a d then some (⟨d,b⟩,[]) else none
 |.bu f=>match gw a f.cells.toList with
  |some b=>some (⟨a,b⟩,[])
  |none=>none
 |.ref id []=>match ai e id with
  |some c=>bif aS a c.1 then some (c,[id]) else none
  |none=>none
 |_=>none
theorem Hj {h:bI->Nat->Prop} (m:∀id t,ai e id=some t->aD h w t.1 (rt id) t.2 (fp id)) {a:ae} (j:dn s a c) (i:bk h w e rt fp d G) {t:ay} {ids:cP} (b:s3 e a d=some (t,ids)):aD h w t.1 G.cells.toList t.2 (ids.map fp).flatten/\t.1.size=a.size/\∀id∈ids,∃p,ai e id=some p:=by
 unfold s3 at b;split at b
 ·rename_i r q;cases f:aS a r with
  |false=>grind
  |true=>
   rw[f] at b;cases b;cases i with|val g=>
   rw[md (j.lay f) g.len g.one];grind [aS.size]
 ·rename_i v;split at b
  ·rename_i q u;cases b;cases i;grind [mP]
  grind
 ·rename_i id;split at b
  ·rename_i o k;cases f:aS a o.1 with
   |false=>grind
   |true=>
    rw[f] at b;cases b;cases i with|ref l n=>
    rw[k] at l;cases l;obtain⟨rfl,rfl,rfl⟩:=aF.ei.1 n;have g:=m id _ k;rw[md (j.lay f) g.len g.one];grind [List.mem_singleton,aS.size]
  grind
 grind
def j4 (e:List (Nat×ay)) (d:Operand->ah) (g:List (Nat×Operand)):ae->Nat->Option (ay×cP)
 |.pr a h,f=>
  match(match jb g f with
   |none=>match jj a with
    |some i=>some ((⟨a,i⟩:ay),([]:cP))
    |none=>none
   |some b=>s3 e a (d b)),j4 e d g h (f+1) with
  |some b,some c=>some (⟨.pr b.1.1 c.1.1,(b.1.2,c.1.2)⟩,b.2++c.2)
  |_,_=>none
 |.nil,_=>some (⟨.nil,()⟩,[])
 |_,_=>none
theorem F4 {p:Program} {g:bI->Nat->Prop} {b:List (Nat×ay)} (z:∀id t,ai b id=some t->aD g w t.1 (rt id) t.2 (fp id)) {m:Operand->ah} {h:Operand->Value} (y:∀c,bk g w b rt fp (m c) (h c)) {parts:List (Nat×Operand)} {cells:cJ}:∀{u:ae} {n:Nat} {r:List Field} {off:Nat} {zs:cJ} {t:ay} {ids:cP},gp p u r off zs->j4 b m parts u n=some (t,ids)->cells.length=off+u.size->(∀d k e,dy u d=some (k,e)->(∀c,jb parts (n+d)=some c->(h c).cells.size=e.size/\(cells.drop (off+c9 u d)).take e.size=(h c).cells.toList)/\(jb parts (n+d)=none->(cells.drop (off+c9 u d)).take e.size=(zs.drop (c9 u d)).take e.size))->aD g w t.1 (cells.drop off) t.2 (ids.map fp).flatten/\t.1.size=u.size/\∀id∈ids,∃u,ai b id=some u
 |.pr a q,n,E::O,off,zs,t,ids,o,f,A,i=>by
  simp only[j4] at f;split at f
  case h_2=>cases f
  rename_i c l j C;cases f;obtain⟨F,s,G,⟨K,R,ao,M,N⟩,v⟩:=o;have x:=i 0 _ a rfl;simp only[lE,c9,mB] at x;have H:aD g w c.1.1 ((cells.drop off).take a.size) c.1.2 (c.2.map fp).flatten/\c.1.1.size=a.size/\∀id∈c.2,∃u,ai b id=some u:=by
   split at j
   ·rename_i J;split at j
    ·rename_i S D;cases j;obtain⟨L,T,P,Q,_,aT⟩:=rz s D;grind
    grind
   grind [Hj]
  have I:=F4 z y (parts:=parts) (cells:=cells) (u:=q) (n:=n+1) (off:=off+a.size) (zs:=zs.drop a.size) (t:=l.1) (ids:=l.2) v C (by grind [ae.size]) (by
   intro d k e B;have:=i (d+1) (.snd::k) e (by simp[dy,B]);grind [List.drop_drop,c9])
  refine⟨⟨(c.2.map fp).flatten,(l.2.map fp).flatten,ab,?_,?_⟩,by grind [ae.size],?_⟩
  ·grind
  ·simp_all
  grind
 |.nil,n,[],off,zs,t,ids,o,f,A,i=>by cases f;exact⟨⟨rfl,by grind [List.drop_eq_nil_iff,ae.size]⟩,rfl,ab⟩
 |.pr _ _,_,[],_,_,_,_,b,_,_,_=>b.elim
 |.nil,_,_::_,_,_,_,_,b,_,_,_=>b.elim
 |.int _,_,_,_,_,_,_,b,_,_,_=>by cases b
 |.bool,_,_,_,_,_,_,b,_,_,_=>by cases b
 |.str,_,_,_,_,_,_,b,_,_,_=>by cases b
 |.aU _ _,_,_,_,_,_,_,b,_,_,_=>by cases b
 |.osl _,_,_,_,_,_,_,b,_,_,_=>by cases b
 |.ptr _ _,_,_,_,_,_,_,b,_,_,_=>by cases b
 |.optr _,_,_,_,_,_,_,b,_,_,_=>by cases b
 |.st _,_,_,_,_,_,_,b,_,_,_=>by cases b
 |.bJ,_,_,_,_,_,_,b,_,_,_=>by cases b
theorem F5 {z:Program} {h:bI->Nat->Prop} {b:List (Nat×ay)} (l:∀id t,ai b id=some t->aD h w t.1 (rt id) t.2 (fp id)) {j:Operand->ah} {i:Operand->Value} (k:∀e,bk h w b rt fp (j e) (i e)) {q:List (Nat×Operand)}:∀{u:ae} {n:Nat} {B:List Field} {p:Nat} {y:cJ} {t:ay} {ids:cP},gp z u B p y->j4 b j q u n=some (t,ids)->∀d s g,dy u d=some (s,g)->∀e,jb q (n+d)=some e->(i e).cells.size=g.size
 |.pr a A,n,I::P,p,y,t,ids,E,f,d,s,g,c,e,m=>by
  simp only[j4] at f;split at f
  case h_2=>cases f
  rename_i v x o G;obtain⟨J,C,K,⟨L,Q,ao,N,O⟩,D⟩:=E;cases d with
  |zero=>
   simp only[dy,bw,e6] at c;obtain⟨_,rfl⟩:=c;rw[lE] at m;rw[m] at o;obtain⟨H,M,_⟩:=Hj (t:=v.1) (ids:=v.2) l C (k e) o;have:=H.len;grind
  |succ d=>
   simp only[dy] at c;split at c
   ·rename_i r F;simp only[bw,e6] at c;obtain⟨_,rfl⟩:=c;exact F5 l k (u:=A) (n:=n+1) (t:=x.1) (ids:=x.2) D G d r.1 r.2 F e (by rwa[(U:n+1+d=n+(d+1))])
   grind
 |.pr _ _,_,[],_,_,_,_,b,_,_,_,_,_,_,_=>b.elim
 |.nil,_,_,_,_,_,_,_,_,_,_,_,c,_,_=>by cases c
 |.int _,_,_,_,_,_,_,b,_,_,_,_,_,_,_=>by cases b
 |.bool,_,_,_,_,_,_,b,_,_,_,_,_,_,_=>by cases b
 |.str,_,_,_,_,_,_,b,_,_,_,_,_,_,_=>by cases b
 |.aU _ _,_,_,_,_,_,_,b,_,_,_,_,_,_,_=>by cases b
 |.osl _,_,_,_,_,_,_,b,_,_,_,_,_,_,_=>by cases b
 |.ptr _ _,_,_,_,_,_,_,b,_,_,_,_,_,_,_=>by cases b
 |.optr _,_,_,_,_,_,_,b,_,_,_,_,_,_,_=>by cases b
 |.st _,_,_,_,_,_,_,b,_,_,_,_,_,_,_=>by cases b
 |.bJ,_,_,_,_,_,_,b,_,_,_,_,_,_,_=>by cases b
theorem KG (am:o.op=.build c r) (F:iL E.tt c=some x) (d0:aS x n=true\/x=n) (R:jB r.toList 0=true) (B:∀d∈r.toList,Nat.blt d.1 (eh n)=true) (O:∀e k b,dy n e=some (k,b)->∀f,jb r.toList e=some f->(a.eval f).cells.size=b.size):∃h g p,gp E.P n h 0 g/\(execOp a.eval o).run E.P w=.ok (.value (.agg p)) w/\p.toList.length=n.size/\(∀e k b,dy n e=some (k,b)->(∀f,jb r.toList (0+e)=some f->(a.eval f).cells.size=b.size/\(p.toList.drop (0+c9 n e)).take b.size=(a.eval f).cells.toList)/\(jb r.toList (0+e)=none->(p.toList.drop (0+c9 n e)).take b.size=(g.drop (c9 n e)).take b.size)):=by
 obtain⟨l,h,g,S,cs,T,V,q,cv⟩:∃l h g,E.P.info? c=some l/\l.size=n.size/\l.zero=some (.agg g)/\E.P.underlying c=some (.struct h)/\gp E.P n h.toList 0 g.toList/\g.size=n.size:=by
  unfold iL at F;split at F
  ·rename_i em X;cases F;obtain⟨_,l,h,g,ao,d2,_,d3,d4,d5,d6⟩:=E.ok c _ X;grind [aS.size,gp.lay]
  grind
 have G:=run_places (P:=E.P) w n h.toList 0 g.toList q;simp only[h1] at G;generalize ds:((List.range (eh n)).map λm=>(c9 n m,match dy n m with|some d=>d.2.size|none=>0))=I at G;have v:∀m k b,dy n m=some (k,b)->m<eh n->I.toArray[m]?=some (c9 n m,b.size):=(by grind);obtain⟨p,bl,d7,bs,aT⟩:=uZ (λl=>I.toArray[l]?) (r.toList.map λd=>(d.1,a.eval d.2)) g (by
  intro d y;obtain⟨j,C,rfl⟩:=b0.1 y;have t:j.1<eh n:=ek (B j C);obtain⟨k,b,i⟩:=oa q j.1 t;refine⟨_,_,v _ _ _ i t,O _ _ _ i j.2 ?_,by simp_all [sz]⟩;grind [A8]) (by
  rw[tH];refine(A9 R).imp_of_mem ?_;intro d J y av t a4 ce d1 d8 aj L;have A:d.1<eh n:=ek (B d y);have Q:J.1<eh n:=ek (B J av);obtain⟨ci,co,s⟩:=oa q d.1 A;obtain⟨d9,el,N⟩:=oa q J.1 Q;rw[v _ _ _ s A] at aj;rw[v _ _ _ N Q] at L;cases aj;cases L;exact .inl (qS s N t))
 have a0:p.toList.length=n.size:=(by grind);refine⟨h.toList,g.toList,p,q,?_,a0,?_⟩
 ·have ap:(Array.map (λf=>(f.fst,a.eval f.snd)) r).toList=r.toList.map λd=>(d.1,a.eval d.2):=ab;have an:(h.mapM λM=>do Pure.pure (M.offset,<-sizeOf M.type):Sem (Array cz)).run E.P w=.ok I.toArray w:=by
   rw[Array.mapM_eq_mapM_toList,Sem.run_map,G];rfl
  have H:(zeroValue c).run E.P w=.ok (.agg g) w:=(by simp[zeroValue,typeInfo,S,T]);simp only[execOp,am,Instr.build,Sem.run_bind,H,run_underlying V,Result.andThen_ok,an,ap,Value.cells,bl];rfl
 intro e k b i;have Y:e<eh n:=AQ i;simp only[h1];have dl:=sz i;refine⟨λf D=>?_,λD=>?_⟩
 ·have Z:=vb D;have H:=O e k b i f D;refine⟨H,?_⟩;apply hY;intro z;rcases bi z b.size with u|u
  ·obtain⟨K,a3⟩:∃K,(a.eval f).cells[z]?=some K:=⟨_,tq U⟩;have:=aT (e,a.eval f) (b0.2 ⟨(e,f),Z,rfl⟩) _ _ (v _ _ _ i Y) z K a3;grind
  grind
 apply hY;intro z;rcases bi z b.size with u|u
 ·rw[kj u,kj u,jS,jS];simp only[ts];refine bs _ ?_;intro d y a4 ce aj;obtain⟨j,C,rfl⟩:=b0.1 y;have ad:=Br D j C;have A:j.1<eh n:=ek (B j C);obtain⟨ci,co,s⟩:=oa q j.1 A;rw[v _ _ _ s A] at aj;cases aj;rcases Nat.lt_or_gt_of_ne ad with t|W
  ·have:=qS s i t;omega
  have:=qS i s W;omega
 grind
theorem bg.AU {t:cH} (d:bg C st t w I rt fp):∀{a:cP},a.Nodup->(∀id∈a,∃b,ai st.h id=some b)->(a.map fp).flatten.Nodup
 |[],_,_=>by simp
 |i::a,r,e=>by obtain⟨k,l⟩:=hZ.1 r;obtain⟨b,f⟩:=e i ab;simp only[eG,iB];refine hI.2 ⟨(d.tree i b f).2.1,bg.AU d l (λid x=>e id (by grind)),λj m v o c=>?_⟩;subst c;obtain⟨y,q,n⟩:=hH.1 o;obtain⟨g,p,rfl⟩:=b0.1 q;obtain⟨u,s⟩:=e g (by grind);exact d.dis i g b u f s (λc=>k (c▸p)) j m n
theorem Og (a:b∈(g.map fp).flatten):∃id∈g,b∈fp id:=by grind
def o0 {k:Type} (tt:List (TypeId×ae)) (m:List (Nat×ae)) (e:List (Nat×ay)) (h:Operand->ah) (a:Nat) (l:TypeId) (c:List (Nat×Operand)) (g:ba->Option k):Option k:=
 match iL tt l with
 |none=>none
 |some f=>match ai m a with
  |some (.st j)=>bif aS f j&&(jB c 0&&c.all (λi=>Nat.blt i.1 (eh j))) then match ai e a,j4 e h c j 0 with
   |none,some (b,d)=>bif gX d then g ⟨some (a,.ref a []),d,[],[(a,⟨.st b.1,b.2⟩)]⟩ else none
   |_,_=>none
   else none
  |_=>bif jB c 0&&c.all (λi=>Nat.blt i.1 (eh f)) then match m2 h c f 0 with
   |some b=>g ⟨some (a,.val (.st b.1) b.2),[],[],[]⟩
   |none=>match ai e a,j4 e h c f 0 with
    |none,some (b,d)=>bif gX d then g ⟨some (a,.ref a []),d,[],[(a,⟨.st b.1,b.2⟩)]⟩ else none
    |_,_=>none
   else none
theorem D7 {G:Type} {D:G} {q:ba->Option G} (V:o.op=.build c r) (O:o.dst=some b) (P:C.ok b) (v:iL E.tt c=some x) (A:aS x n=true\/x=n) (p:(jB r.toList 0&&r.toList.all (λm=>Nat.blt m.1 (eh n)))=true) (i:(match ai st.h b,j4 st.h (aE st.g) r.toList n 0 with
  |none,some (d,e)=>bif gX e then q ⟨some (b,.ref b []),e,[],[(b,⟨.st d.1,d.2⟩)]⟩ else none
  |_,_=>none)=some D)
 (W:∀s,q s=some D->Q (s.app st)):c5 E C o st Q:=by
 split at i
 case h_2=>cases i
 rename_i d e R l;cases z:gX e with
 |false=>grind
 |true=>
 rw[z] at i;simp only[a2,et] at p;obtain⟨H,J⟩:=p;rintro a w ⟨I,rt,fp,j⟩ next ap T
 have y:∀id d,ai st.h id=some d->aD (aY I C.B) w d.1 (rt id) d.2 (fp id):=λid d l=>(j.tree id d l).1;obtain⟨K,am,F,M,X,a4,N⟩:=KG (a:=a) (w:=w) V v A H J (by
  obtain⟨K,am,_,m⟩:=iL.ok v;intro Z ad an Y k a3;exact F5 y (λk=>j.aE k) (A.elim (λi=>gp.lay i m) (λi=>i▸m)) l Z ad an Y k (by rwa[h1]))
 obtain⟨u,a0,L⟩:=F4 y (λk=>j.aE k) (cells:=F.toList) M l U N;rw[mB] at u;refine c5.own (S:=e) (t:=⟨.st d.1,d.2⟩) (cs:=F.toList) (f:=(e.map fp).flatten) O P j T (.inr R) X (fw.refl w) rfl u (j.AU (gX.ok z) L) (λav p=>?_) ?_
 ·grind
 have:=W _ i;rw[show(ba.mk (some (b,.ref b [])) e [] [(b,⟨.st d.1,d.2⟩)]).app st=⟨(b,.ref b [])::kill e [] st.g,(b,⟨.st d.1,d.2⟩)::del e st.h⟩ by
  show aA.mk ((b,_)::kD e [] st.g) ([_]++nR e st.h)=_;rw[pp,so];rfl] at this
 omega
theorem Kw {v:Type} {s:v} {p:ba->Option v} (l:o.op=.build c r) (i:o.dst=some b) (j:C.ok b) (a:o0 E.tt k st.h (aE st.g) b c r.toList p=some s) (m:∀q,p q=some s->Q (q.app st)):c5 E C o st Q:=by
 unfold o0 at a;split at a
 ·cases a
 rename_i t e;split at a
 ·rename_i u x;cases d:(aS t u&&(jB r.toList 0&&r.toList.all (λn=>Nat.blt n.1 (eh u)))) with
  |false=>grind
  |true=>
  rw[d] at a;simp only[cond_true] at a;have f:=d;rw[a2] at f;exact D7 l i j e (.inl f.1) f.2 a m
 cases d:(jB r.toList 0&&r.toList.all (λn=>Nat.blt n.1 (eh t))) with
 |false=>grind
 |true=>
 rw[d] at a;simp only[cond_true] at a;split at a
 ·rename_i y w;refine c5.eval (an:=[]) i j ?_;rw[l];simp only[eD,tZ,e,d,cond_true,w];exact m _ a
 exact D7 l i j e (.inr rfl) d a m
def qn {h:Type} (tt:List (TypeId×ae)) (j:List (Nat×ae)) (f:List (Nat×ay)) (a:Nat) (i:TypeId) (b:ah) (c:ba->Option h):Option h:=
 match ai tt i,ai f a with
 |some g,none=>match b with
  |.val e b=>bif aS g e then match ai j a with
   |some (.ptr .bm _)=>c ⟨some (a,.val (.ptr .bm e) (some b)),[],[],[]⟩
   |_=>c ⟨some (a,.ref a []),[],[],[(a,⟨.optr e,b⟩)]⟩
   else none
  |.ref id []=>match ai f id with
   |some d=>bif aS g d.1 then c ⟨some (a,.ref a []),[id],[],[(a,⟨.optr d.1,d.2⟩)]⟩ else none
   |none=>none
  |_=>none
 |_,_=>none
theorem Kz {ad:Type} {X:ad} {O:ba->Option ad} (L:o.op=.box c m) (G:o.dst=some b) (H:C.ok b) (i:qn E.tt k st.h b c (aE st.g m) O=some X) (M:∀R,O R=some X->Q (R.app st)):c5 E C o st Q:=by
 unfold qn at i;split at i
 case h_2=>cases i
 rename_i y F T;split at i
 ·rename_i D Z r;cases e:aS y D with
  |false=>grind
  |true=>
  rw[e] at i;simp only[cond_true] at i;split at i
  ·rintro a w ⟨I,rt,fp,l⟩ next am K
   have n:=l.aE m;rw[r] at n;have J:=(E.ok c y F).lay e;generalize N:a.eval m=A at n;cases n with|val u=>
   rename_i z;have s:∀p d,aY I C.B p d->br w (w.alloc (.cells z.toArray c)) d:=λp d e=>.of_heap ((fw.alloc w _).heap d (l.ib d (kF e)));have ce:Yields E C st a w I rt fp o (λP W=>Q ⟨(b,P)::st.g,W++st.h⟩):=by
    refine⟨.pointer (some ⟨w.heap.size,0,none⟩),w.alloc (.cells z.toArray c),λd=>I d\/d=w.heap.size,λ_=>[],λ_=>[],.val (.ptr .bm D) (some Z),[],?_,fw.alloc w _,λ_ i=>.inl i,?_,.nil,?_,M _ i⟩
    ·simp[execOp,L,N,Instr.box,newVar,newRow,md J u.len u.one]
    ·rintro d (i|rfl)
     ·grind
     simp_all
    refine .val (τ:=.ptr .bm D) (x:=some Z) (cs:=[.pointer (some ⟨w.heap.size,0,none⟩)]) ⟨rfl,w.heap.size,0,z,rfl,.inr rfl,u.len,du.alloc (λci A a0=>by grind),?_⟩;refine u.mono (λp d e=>⟨?_,s p d e⟩) ab;cases p
    ·exact .inl e
    exact e.imp .inl (λi=>i)
   exact ce.wp l G H (λP W ap w' bl av bs=>K _ ap w' bl av bs)
  refine c5.eval (an:=[]) G H ?_;rw[L];simp only[eD,ua,F,T,r,e,cond_true];exact M _ i
 ·rename_i id r;split at i
  case h_2=>cases i
  rename_i j U;cases e:aS y j.1 with
  |false=>grind
  |true=>
  rw[e] at i;rintro a w ⟨I,rt,fp,l⟩ next am K
  have n:=l.aE m;rw[r] at n;obtain⟨q,cv,Y⟩:=l.tree id j U;have J:=(E.ok c y F).lay e;generalize N:a.eval m=A at n;cases n with|ref V a4=>
  rw[U] at V;cases V;obtain⟨rfl,rfl,rfl⟩:=aF.ei.1 a4;have s:∀d,d<w.heap.size->br w (w.alloc (.cells (rt id).toArray c)) d:=λd e=>.of_heap ((fw.alloc w _).heap d e);have co:aD (aY I C.B) (w.alloc (.cells (rt id).toArray c)) j.1 (rt id) j.2 (fp id):=q.mono (λp d e=>⟨e,s d (l.ib d (kF e))⟩) (λd e=>s d (Y d e).2.2.1);refine c5.own (S:=[id]) (t:=⟨.optr j.1,j.2⟩) (cs:=[.pointer (some ⟨w.heap.size,0,none⟩)]) (f:=w.heap.size::fp id) (v:=.pointer (some ⟨w.heap.size,0,none⟩)) (w':=w.alloc (.cells (rt id).toArray c)) G H l K (.inr T) ?_ (fw.alloc w _) rfl ⟨w.heap.size,0,fp id,rt id,rfl,rfl,q.len,du.alloc (λci A a0=>by grind),gM.alloc (by simp[q.len]),co⟩ (hZ.2 ⟨λa3=>Nat.lt_irrefl _ (Y _ a3).2.2.1,cv⟩) ?_ ?_
  ·simp[execOp,L,N,Instr.box,newVar,newRow,md J q.len q.one]
  ·intro d e;rcases dw.1 e with rfl|e
   ·simp_all
   grind
  have:=M _ i;rw[show(ba.mk (some (b,.ref b [])) [id] [] [(b,⟨.optr j.1,j.2⟩)]).app st=⟨(b,.ref b [])::kill [id] [] st.g,(b,⟨.optr j.1,j.2⟩)::del [id] st.h⟩ from rfl] at this;omega
 grind
def qp (c:List (Nat×ay)) (a:ae) (x:ah):Option (a.den×cP):=
 match x with
 |.ref id []=>match ai c id with
  |some d=>match fD a d.2 with
   |some b=>some (b,[id])
   |none=>none
  |none=>none
 |x=>match coe a x with
  |some b=>some (b,[])
  |none=>none
def qq (b:List (Nat×ay)) (a:ae):List ah->Option (List a.den×cE)
 |[]=>some ([],[])
 |x::e=>match qp b a x,qq b a e with
  |some d,some c=>some (d.1::c.1,d.2::c.2)
  |_,_=>none
theorem K0 {b:bI->Nat->Prop} (m:∀id n,ai e id=some n->aD b w n.1 (rt id) n.2 (fp id)) (k:dn E.P n c) (p:bk b w e rt fp d G) {j:n.den} (a:qp e n d=some (j,g)):aD b w n G.cells.toList j (g.map fp).flatten/\∀id∈g,∃r,ai e id=some r:=by
 unfold qp at a;split at a
 ·rename_i id;split at a
  case h_2=>cases a
  rename_i s f;split at a
  case h_2=>cases a
  rename_i t q;cases a;obtain⟨u,d⟩:=s;have l:=hO q;cases l;cases p with|ref h o=>
  rw[f] at h;cases h;obtain⟨rfl,rfl,rfl⟩:=aF.ei.1 o;have i:=m id _ f;rw[md k i.len i.one];grind
 grind [Ae]
theorem Ee {e:List (Nat×ay)} {c:ae}:∀{b:List ah} {xs:List c.den} {is:cE},qq e c b=some (xs,is)->xs.length=b.length/\is.length=b.length/\∀(d:Nat) (h:c.den),xs[d]?=some h->∃(y:ah) (f:cP),b[d]?=some y/\is[d]?=some f/\qp e c y=some (h,f)
 |[],xs,is,a=>by cases a;grind
 |y::b,xs,is,a=>by
  simp only[qq] at a;split at a
  ·rename_i n g m i;cases a;obtain⟨j,k,l⟩:=Ee (xs:=g.1) (is:=g.2) i;grind
  grind
def o2 {i:Type} (tt:List (TypeId×ae)) (k:List (Nat×ae)) (f:List (Nat×ay)) (e:Operand->ah) (a:Nat) (j:TypeId) (g:Nat) (c:List (Nat×Operand)) (d:ba->Option i):Option i:=
 match ey tt j,ai f a with
 |some h,none=>
  match(match ai k a with|some (.osl t)=>t|_=>h) with
  |t=>bif aS h t&&Nat.ble t.size 2000&&Nat.ble g 1000&&rj c 0&&Nat.beq c.length g then
   match ud t (c.map λb=>e b.2) with
   |some l=>d ⟨some (a,.ref a []),[],[],[(a,⟨.osl t,l⟩)]⟩
   |none=>match qq f t (c.map λb=>e b.2) with
    |some b=>bif gX b.2.flatten then d ⟨some (a,.ref a []),b.2.flatten,[],[(a,⟨.osl t,b.1⟩)]⟩ else none
    |none=>none
  else none
 |_,_=>none
theorem KD {el:Type} {d7:el} {a0:ba->Option el} (dl:o.op=.buildSlice c b r) (ce:o.dst=some l) (ci:C.ok l) (j:o2 E.tt k st.h (aE st.g) l c b r.toList a0=some d7) (K:∀N,a0 N=some d7->Q (N.app st)):c5 E C o st Q:=by
 unfold o2 at j;split at j
 case h_2=>cases j
 rename_i q bs co;generalize u:(match ai k l with|some (.osl d)=>d|_=>q)=d at j;simp only at j;cases i:(aS q d&&Nat.ble d.size 2000&&Nat.ble b 1000&&rj r.toList 0&&Nat.beq r.toList.length b) with
 |false=>grind
 |true=>
 rw[i] at j;simp only[cond_true] at j;split at j
 ·rename_i y d3;refine c5.eval (an:=k) ce ci ?_;rw[dl];simp only[eD,r1,bs,co];cases G:ai k l with
  |none=>
   rw[G] at u;simp only at u;subst u;simp only[i,cond_true,d3];exact K _ j
  |some m=>
   rw[G] at u;cases m<;>(simp only at u;subst u;simp only[i,cond_true,d3];exact K _ j)
 split at j
 case h_2=>cases j
 rename_i m d0;obtain⟨y,p⟩:=m;cases Z:gX p.flatten with
 |false=>grind
 |true=>
 rw[Z] at j;rintro a w ⟨I,rt,fp,A⟩ next gf f6
 have fz:∀id d,ai st.h id=some d->aD (aY I C.B) w d.1 (rt id) d.2 (fp id):=λid d u=>(A.tree id d u).1;simp only[a2] at i;obtain⟨⟨⟨⟨eq,V⟩,W⟩,M⟩,a3⟩:=i;have V:=ek V;have W:=ek W;have a3:r.toList.length=b:=dU a3;obtain⟨d5,T,_,fb,fn⟩:=ey.ok bs;have J:=fn.lay eq;obtain⟨ap,gl,d6,_⟩:=J.info;have hr:=J.pos;obtain⟨ex,a4,bl⟩:=Ee d0;simp only[gN] at ex a4;have f9:y.length=b:=U;have hc:b*d.size<=16777216:=(by have:b*d.size<=1000*2000:=gO W V;omega);have X:∀(e:Nat) (m:Nat×Operand),r.toList[e]?=some m->∃(x:d.den) (s:cP),y[e]?=some x/\p[e]?=some s/\aD (aY I C.B) w d (a.eval m.2).cells.toList x (s.map fp).flatten/\∀id∈s,∃q,ai st.h id=some q:=(by intro e m D;have f3:e<y.length:=(by grind);obtain⟨jp,s,aj,go,O⟩:=bl e y[e] ab;rw[gq,D] at aj;simp only[hj,bw] at aj;subst aj;obtain⟨hw,ic⟩:=K0 fz J (A.aE m.2) O;grind);have Y:∀id∈p.flatten,∃q,ai st.h id=some q:=by
  intro id R;obtain⟨L,G,gs⟩:=hH.1 R;obtain⟨e,D,rfl⟩:=g3.1 G;have F:r.toList[e]?=some (r.toList[e]'(by omega)):=bB _
  grind
 obtain⟨d4,f0,f1⟩:∃d9:cH,(b*d.size=0->d9=#[])/\(b*d.size≠0->∃H,(zeroValue T).run E.P w=.ok H w/\d9=H.cells):=by
  by_cases z:b*d.size=0
  ·simp_all
  obtain⟨H,_,ge⟩:=dn.A3 J;exact⟨H.cells,λj=>absurd j z,λ_=>⟨H,by simp[zeroValue,typeInfo,d6.info,ge ap d6.info],rfl⟩⟩
 obtain⟨av,d8,i1,i2,aT⟩:=uZ (λap=>some (ap*d.size,d.size)) (r.toList.map λm=>(m.1,a.eval m.2)) ((Array.range (b*d.size)).map (d4[· %d4.size]!)) (by
  intro m K;obtain⟨i0,f7,rfl⟩:=b0.1 K;obtain⟨e,D,rfl⟩:=g3.1 f7;have F:r.toList[e]?=some r.toList[e]:=ab;obtain⟨x,_,_,_,am,_⟩:=X e _ F;have N:=oi M e _ F;have:(e+1)*d.size<=b*d.size:=dD _ U;rw[fy,fQ] at this;refine⟨_,_,rfl,by have:=am.len;omega,?_⟩;grind) (by
  rw[hx];intro e L D G f3 io i3 is i8 aj O;simp only[rJ,bw,e6] at aj O;simp only[gN] at D G;have fa:=oi M e r.toList[e] ab;have f2:=oi M L r.toList[L] ab;obtain⟨rfl,rfl⟩:=aj;obtain⟨rfl,rfl⟩:=O;left;rw[fa,f2];have:(0+e+1)*d.size<=(0+L)*d.size:=dD _ U;grind)
 have hs:av.size=b*d.size:=(by grind);have fs:∀n,n<w.heap.size->br w (w.alloc (.cells av T)) n:=λn i=>.of_heap ((fw.alloc w _).heap n i);have ft:(p.map λs=>(s.map fp).flatten).flatten=(p.flatten.map fp).flatten:=by
  clear X Y bl Z j d0 a4
  induction p with
  |nil=>rfl
  |cons x L hv=>grind
 have f4:∀n∈(p.flatten.map fp).flatten,n<w.heap.size/\∃id∈p.flatten,∃q,ai st.h id=some q/\n∈fp id:=(by intro n i;obtain⟨id,R,i⟩:=Og i;obtain⟨q,ad⟩:=Y id R;exact⟨((A.tree id q ad).2.2 n i).2.2.1,id,R,q,ad,i⟩);refine c5.own (S:=p.flatten) (t:=⟨.osl d,y⟩) (cs:=[.slice (some ⟨w.heap.size,0,none⟩) b b]) (f:=w.heap.size::(p.flatten.map fp).flatten) (v:=.slice (some ⟨w.heap.size,0,none⟩) b b) (w':=w.alloc (.cells av T)) ce ci A f6 (.inr co) ?_ (fw.alloc w _) rfl ?_ (hZ.2 ⟨λf5=>Nat.lt_irrefl _ (f4 _ f5).1,A.AU (gX.ok Z) Y⟩) ?_ ?_
 ·have f8:=J.sizeOf w;have hi:¬(16777216<b*d.size):=U;have ds:(Array.map (λx=>(x.fst,a.eval x.snd)) r).toList=r.toList.map λm=>(m.1,a.eval m.2):=ab;simp only[execOp,dl,Instr.buildSlice,Sem.run_bind,run_underlying fb,Result.andThen_ok,f8];rw[ag U];by_cases z:b*d.size=0
  ·rw[ak z];obtain rfl:=f0 z;rw[ds];simp only[Sem.run_bind,Sem.run_pure,Result.andThen_ok,d8,newRow,newObj];rfl
  rw[ag z];obtain⟨H,gc,rfl⟩:=f1 z;rw[ds];simp only[Sem.run_bind,Sem.run_pure,Result.andThen_ok,gc,d8,newRow,newObj];rfl
 ·refine⟨some ⟨w.heap.size,0,none⟩,b,by rw[f9],.inr ⟨w.heap.size,0,p.map λs=>(s.map fp).flatten,rfl,by rw[ft],by grind,(by grind),gM.alloc U,λe x gr am cv=>?_⟩⟩;have D:e<b:=(by grind);have F:r.toList[e]?=some (r.toList[e]'(by omega)):=by simp
  obtain⟨jn,s,d2,fT,d1,ad⟩:=X e _ F;rw[am] at d2;obtain rfl:=dF d2;rw[gq,fT] at cv;obtain rfl:=dF cv;refine⟨_,d1.len,du.alloc (λd5 em gt=>?_),d1.mono (λii n i=>⟨i,fs n (A.ib n (kF i))⟩) (λn i=>?_)⟩
  ·have:=aT (r.toList[e].1,a.eval r.toList[e].2) (b0.2 ⟨r.toList[e],dm _,rfl⟩) _ _ rfl d5 em (by grind);have N:=oi M e _ F;grind
  grind
 ·intro n i;rcases dw.1 i with rfl|i
  ·exact .inl ⟨aZ _,ab⟩
  grind
 have:=K _ j;rw[show(ba.mk (some (l,.ref l [])) p.flatten [] [(l,⟨.osl d,y⟩)]).app st=⟨(l,.ref l [])::kill p.flatten [] st.g,(l,⟨.osl d,y⟩)::del p.flatten st.h⟩ by
  show aA.mk ((l,_)::kD _ [] st.g) ([_]++nR _ st.h)=_;rw[pp,so];rfl] at this
 omega
end
end
section
def gx:ae->ae
 |.osl a=>.aU .bm (gx a)
 |.st a=>.st (gx a)
 |.pr b c=>.pr (gx b) (gx c)
 |.mp a=>.di .bm a
 |τ=>τ
def pg:ae->Bool
 |.osl a|.st a=>pg a
 |.pr b c=>pg b&&pg c
 |.optr _|.bJ=>false
 |_=>true
def pi:∀d:ae,(gx d).den=d.den
 |.osl c=>congrArg List (pi c)
 |.st c=>pi c
 |.pr a b=>by show((gx a).den×(gx b).den)=(a.den×b.den);rw[pi a,pi b]
 |.int _|.bool|.str|.aU _ _|.ptr _ _|.optr _|.nil|.bJ|.mp _|.di _ _=>rfl
def iJ (a:ae) (b:a.den):(gx a).den:=cast (pi a).symm b
def KK {c:Type} (d:a=c) (e:List a=List c) (b:List a):cast e b=b.map (cast d):=by subst d;show b=b.map (λf=>f);simp
def KL {c C d:Type} (e:a=c) (f:C=d) (g:(a×C)=(c×d)) (b:a×C):cast g b=(cast e b.1,cast f b.2):=by subst e;subst f;rfl
def AX (a:ae) (b:List a.den):(iJ (.osl a) b:List (gx a).den)=b.map (iJ a):=KK (pi a).symm _ b
def MI (a b:ae) (c:a.den×b.den):(iJ (.pr a b) c:(gx a).den×(gx b).den)=(iJ a c.1,iJ b c.2):=KL (pi a).symm (pi b).symm _ c
def qU:∀b:ae,(gx b).size=b.size
 |.osl a=>rfl
 |.st a=>qU a
 |.pr c d=>by simp only[gx,ae.size,qU c,qU d]
 |.int _|.bool|.str|.aU _ _|.ptr _ _|.optr _|.nil|.bJ|.mp _|.di _ _=>rfl
def s7 {B u:bI->Nat->Prop} {w:World} (i:∀c a,B c a->u c a):∀{τ:ae} {g:cJ} {d:τ.den} {h:cP},pg τ=true->aD B w τ g d h->(∀a∈h,u .bm a)->aD u w (gx τ) g (iJ τ d) []
 |.osl f,g,t,h,j,b,k=>by
  obtain⟨l,K,G,b⟩:=b;have s:(iJ (.osl f) t:List (gx f).den).length=List.length (α:=f.den) t:=(by rw[AX];simp);rcases b with⟨rfl,E,rfl,rfl⟩|⟨a,R,D,rfl,rfl,r,o,F,A⟩
  ·refine⟨rfl,none,0,by rw[G,s],by rw[s,E];simp,λ_=>rfl,.inl ?_⟩;rw[AX,E];rfl
  refine⟨rfl,_,K,by rw[G,s],by rw[s];exact o,(λb=>by cases b),?_⟩;refine .inr ⟨a,R,rfl,k a ab,λm d q=>?_⟩;rw[AX] at q;have q:(List.map (iJ f) t)[m]?=some d:=q;rw[gq] at q;obtain⟨S,H,rfl⟩:=dE.1 q;have U:m<List.length (α:=f.den) t:=(ej.1 H).1;have O:D[m]?=some (D[m]'(by omega)):=bB _
  obtain⟨z,v,x,y⟩:=A m S _ H O;rw[qU];exact⟨z,v,x,s7 i j y (λn p=>k n (eH _ (hH.2 ⟨_,dm _,p⟩)))⟩
 |.st f,g,d,h,j,b,k=>s7 (τ:=f) i j b k
 |.pr l a,g,d,h,j,b,k=>by
  simp only[pg,a2] at j;obtain⟨T,f2,rfl,r,o⟩:=b;have C:=MI l a d;refine⟨[],[],rfl,?_,?_⟩
  ·rw[qU];have:=s7 i j.1 r (λn p=>k n (by simp[p]));rw[show(iJ (.pr l a) d:(gx l).den×(gx a).den).1=iJ l d.1 by rw[C]];exact this
  rw[qU];have:=s7 i j.2 o (λn p=>k n (by simp[p]));rw[show(iJ (.pr l a) d:(gx l).den×(gx a).den).2=iJ a d.2 by rw[C]];exact this
 |.int Q,g,d,h,_,b,_=>by obtain rfl:=aD.pure (τ:=.int Q) rfl b;exact b.mono (λc a e=>⟨i c a e,br.refl _ _⟩) ab
 |.bool,g,d,h,_,b,_=>by obtain rfl:=aD.pure (τ:=.bool) rfl b;exact b.mono (λc a e=>⟨i c a e,br.refl _ _⟩) ab
 |.str,g,d,h,_,b,_=>by obtain rfl:=aD.pure (τ:=.str) rfl b;exact b.mono (λc a e=>⟨i c a e,br.refl _ _⟩) ab
 |.aU c f,g,d,h,_,b,_=>by obtain rfl:=aD.pure (τ:=.aU c f) rfl b;exact b.mono (λc a e=>⟨i c a e,br.refl _ _⟩) ab
 |.ptr c f,g,d,h,_,b,_=>by obtain rfl:=aD.pure (τ:=.ptr c f) rfl b;exact b.mono (λc a e=>⟨i c a e,br.refl _ _⟩) ab
 |.nil,g,d,h,_,b,_=>by obtain rfl:=aD.pure (τ:=.nil) rfl b;exact b.mono (λc a e=>⟨i c a e,br.refl _ _⟩) ab
 |.optr _,_,_,_,j,_,_=>by cases j
 |.di c f,g,d,h,_,b,_=>by obtain rfl:=aD.pure (τ:=.di c f) rfl b;exact b.mono (λc a e=>⟨i c a e,br.refl _ _⟩) ab
 |.mp f,g,d,h,_,b,k=>by
  cases d with
  |none=>exact⟨rfl,b.2⟩
  |some I=>
   obtain⟨a,L,J,r,o,N,F,A,M⟩:=b;refine⟨a,L,J,r,rfl,N,k a (by rw[o];simp),F,A,λm I P=>?_⟩;obtain⟨z,v,x,y⟩:=M m I P;exact⟨z,v,x,y.mono (λc a e=>⟨i c a e,br.refl _ _⟩) ab⟩
 |.bJ,_,_,_,j,_,_=>by cases j
def nX:ay->ah
 |⟨.optr u,x⟩=>.val (.ptr .bm (gx u)) (some (iJ u x))
 |⟨a,x⟩=>.val (gx a) (iJ a x)
def AY:ae->Bool
 |.optr a=>pg a
 |τ=>pg τ
def eK (c:List (Nat×ay)) (b:cP) (a:ah):ah:=
 match a with
 |.ref id []=>bif bU id b then match ai c id with
  |some d=>nX d
  |none=>.dead else .ref id []
 |a=>bif a.dB b then .dead else a
def j1 (c:List (Nat×ay)) (b:cP) (a:ah):(∃id d,a=.ref id []/\id∈b/\ai c id=some d/\eK c b a=nX d)\/(eK c b a=.dead/\a.dB b=true)\/(eK c b a=a/\a.dB b=false):=by
 have i:∀a:ah,eK c b a=(bif a.dB b then .dead else a)->(∃id d,a=.ref id []/\id∈b/\ai c id=some d/\eK c b a=nX d)\/(eK c b a=.dead/\a.dB b=true)\/(eK c b a=a/\a.dB b=false):=by
  intro a f;cases g:a.dB b with
  |true=>rw[g] at f;exact .inr (.inl ⟨f,rfl⟩)
  |false=>rw[g] at f;exact .inr (.inr ⟨f,rfl⟩)
 cases a with
 |ref id j=>
  cases j with
  |nil=>
   cases e:bU id b with
   |true=>
    have g:(ah.ref id []).dB b=true:=(by simp[ah.dB,ah.ids,e]);cases h:ai c id with
    |none=>exact .inr (.inl ⟨by simp[eK,e,h],g⟩)
    |some d=>exact .inl ⟨id,d,rfl,eN.1 e,h,by simp[eK,e,h]⟩
   |false=>exact .inr (.inr ⟨by simp[eK,e],by simp[ah.dB,ah.ids,e]⟩)
  |cons k j=>exact i _ rfl
 |_=>exact i _ rfl
def gh (c:List (Nat×ay)) (b:cP):ah->ah
 |.dh d=>.dh (d.map (eK c b))
 |a=>eK c b a
theorem AW (b:∀a,d≠.dh a):gh e g d=eK e g d:=by
 cases d with
 |dh a=>exact absurd rfl (b a)
 |_=>rfl
def ph (a:cP) (st:aA):aA:=⟨st.g.map λb=>(b.1,gh st.h a b.2),del a st.h⟩
def Ff (c:ah->ah) (e:c .dead=.dead):∀(d:List (Nat×ah)) (b:Nat),gt (d.map λf=>(f.1,c f.2)) b=c (gt d b)
 |[],b=>e.symm
 |(g,a)::d,b=>by
  show gt ((g,c a)::_) b=_;rw[gy,gy];split
  ·rfl
  exact Ff c e d b
theorem yn (a:cP) (st:aA) (b:Nat):gt (ph a st).g b=gh st.h a (gt st.g b):=Ff (gh st.h a) rfl st.g b
def MJ (a:cP) (st:aA):aE (ph a st).g=λb=>gh st.h a (aE st.g b):=by
 funext b;cases b with
 |tmp c=>exact yn a st c
 |const d=>cases d<;>rfl
 |func e=>rfl
 |global f=>rfl
theorem zv (a:d.dB g=false) (b:List (Nat×List aM)):dj g b d=d:=by unfold dj;rw[a];rfl
def Tk (a:(ah.dh L).dB g=false) (c:d∈L):d.dB g=false:=by unfold ah.dB at a|-;rw[rG] at a|-;intro id f;obtain⟨b,e,rfl⟩:=g3.1 c;exact a id (ah.vj (l:=L) (i:=b) (bB e) f)
theorem Tj (b:d.dB g=false) (a:List (Nat×List aM)):dI g a d=d:=by
 cases d with
 |dh e=>
  simp only[dI];rw[hu (λd c=>zv (Tk b c) a),List.map_id']
 |_=>exact zv b a
theorem MK (a:cP) (b:List (Nat×List aM)) (c:ay):dI a b (nX c)=dj a b (nX c):=by unfold nX;split<;>rfl
def tm (a e:ah):Prop:=a=.dead\/a=e\/∃b c,a=.dh b/\e=.dh c/\b.length=c.length/\∀(f:Nat) (d g:ah),b[f]?=some d->c[f]?=some g->d=.dead\/d=g
section
variable {C:c8} {st:aA} {G:cH} {w:World}
def bg.freeze {f:Nat->Prop} (t:bg C st G w f z A) (W:∀id∈y,∃b,ai st.h id=some b/\AY b.1=true):ev C (ph y st) G w:=by
 have N:=t.e0 (S:=y) (keep:=[]) (new:=[]) (rtn:=z) (fpn:=A) (w':=w) (I':=λa=>f a\/∃id∈y,∃b,ai st.h id=some b/\a∈A id) ⟨aZ _,rfl,rfl,rfl,λ_ _ _=>rfl,λ_ _=>.refl _ _,λ_ c=>.inl c,λa c=>c.imp id λ⟨id,ad,b,r,n⟩=>
  ⟨((t.tree id b r).2.2 a n).2.2.1,.inr ⟨id,ad,b,r,n⟩⟩,(λ_ _ c=>by cases c),(λ_ _ _ _ c=>by cases c),(λ_ c=>by cases c),(λ_ c=>by cases c)⟩
 refine⟨_,_,_,{N with tmp:=λp=>?_}⟩;rw[yn];have o:=t.tmp p;have j:=N.tmp p;rw[show gt (aA.mk (kill y [] st.g) ([]++del y st.h)).g p=dI y [] (gt st.g p) from n1 _ _ _ _] at j;generalize gt st.g p=k at o j;generalize G.getD p undef=e at o j;have H:∀(k:ah) (e:Value),bk (aY f C.B) w st.h z A k e->bk (aY (λa=>f a\/∃id∈y,∃b,ai st.h id=some b/\a∈A id) C.B) w ([]++del y st.h) (de [] z z) (de [] A A) (dj y [] k) e->
  bk (aY (λa=>f a\/∃id∈y,∃b,ai st.h id=some b/\a∈A id) C.B) w ([]++del y st.h) (de [] z z) (de [] A A) (eK st.h y k) e:=by
  intro k e o j;rcases j1 st.h y k with⟨id,b,i,l,m,V⟩|⟨i,_⟩|⟨i,l⟩
  ·rw[V];rw[i] at o;cases o with|ref r an=>
   rw[m] at r;cases r;obtain⟨rfl,rfl,rfl⟩:=aF.ei.1 an;obtain⟨ci,M,K⟩:=W id l;rw[m] at M;cases M;have J:∀u a,aY f C.B u a->aY (λa=>f a\/∃id∈y,∃b,ai st.h id=some b/\a∈A id) C.B u a:=by
    intro u a n;cases u
    ·exact .inl n
    exact n.imp .inl (λc=>c)
   have L:=(t.tree id b m).1;have v:∀a∈A id,aY (λa=>f a\/∃id∈y,∃b,ai st.h id=some b/\a∈A id) C.B .bm a:=λa n=>.inr ⟨id,l,b,m,n⟩;obtain⟨d,s⟩:=b;by_cases D:∃q,d=.optr q
   ·obtain⟨q,rfl⟩:=D;obtain⟨a,E,bl,Q,aj,I,R,T,a4,U⟩:=L;show bk _ _ _ _ _ (.val (.ptr .bm (gx q)) (some (iJ q s))) _;have aj:z id=[.pointer (some ⟨a,E,none⟩)]:=aj;rw[aj];refine .val (τ:=.ptr .bm (gx q)) (x:=some (iJ q s)) (cs:=[.pointer (some ⟨a,E,none⟩)]) ⟨rfl,a,E,Q,rfl,v a (by rw[I];exact lD ..),by rw[qU];exact R,T,s7 J K U (λP X=>v P (by rw[I];exact eH _ X))⟩
   have av:bn d (z id)=bn (gx d) (z id):=(by cases d<;>rfl);have a0:nX ⟨d,s⟩=.val (gx d) (iJ d s):=by cases d<;>first|rfl|exact absurd ⟨_,rfl⟩ D
   have ap:pg d=true:=by cases d<;>first|exact K|exact absurd ⟨_,rfl⟩ D
   rw[a0];show bk _ _ _ _ _ _ (bn d (z id));rw[av];exact .val (s7 J ap L v)
  ·rw[i];exact .dead _
  rw[i];rw[zv l] at j;exact j
 cases k with
 |dh ce=>
  cases o with|dh am Y=>
  cases j with|dh bs Z=>
  refine .dh (by simp[am]) (λO a3 e i l=>?_);rw[gq] at i;obtain⟨F,m,rfl⟩:=dE.1 i;exact H F e (Y O F e m l) (Z O _ e (by rw[gq,m];rfl) l)
 |_=>exact H _ _ o j
def ev.FI (y:ev C st G w) (E:∀b,tm (gt i.g b) (gt st.g b)) (k:∀id,ai i.h id=ai st.h id):ev C i G w:=by
 obtain⟨o,q,p,e⟩:=y;refine⟨o,q,p,{e with tree:=λid j m=>e.tree id j (by rw[<-k];exact m),dis:=λf K j M H I=>e.dis f K j M (by rw[<-k];exact H) (by rw[<-k];exact I),tmp:=λb=>?_}⟩;have t:∀(d:ah) (c:Value),bk (aY o C.B) w st.h q p d c->bk (aY o C.B) w i.h q p d c:=λd c A=>
  A.pB (λP N D=>⟨D,br.refl _ _⟩) (λid _ j m=>⟨by rw[k];exact m,rfl,rfl,(e.tree id j m).1,λ_ _=>br.refl _ _⟩)
 have l:=e.tmp b;rcases E b with a|a|⟨O,L,aj,u,v,x⟩
 ·rw[a];exact .dead _
 ·rw[a];exact t _ _ l
 rw[aj];rw[u] at l;generalize G.getD b undef=c at l;cases l with|dh J F=>
 refine .dh (v.trans J) (λf d c r z=>?_);obtain⟨n,s⟩:∃n,L[f]?=some n:=(by have:=(ej.1 r).1;exact⟨_,bB U⟩);rcases x f d n r s with a|a
 ·rw[a];exact .dead _
 rw[a];exact t _ _ (F f n c s z)
def ev.less (b:ev C st G w) (c:∀a,gt i.g a=.dead\/gt i.g a=gt st.g a) (d:∀id,ai i.h id=ai st.h id):ev C i G w:=
 b.FI (λa=>(c a).imp id .inl) d
end
def ox:Op->List Operand
 |.build _ c=>c.toList.map (·.2)
 |.buildSlice _ _ c=>c.toList.map (·.2)
 |.store _ _ a=>[a]
 |.mapUpdate _ _ _ a=>[a]
 |.insert _ _ _ a=>[a]
 |.entryStore _ _ _ a=>[a]
 |.box _ a=>[a]
 |.assign a=>[a]
 |.call b=>match b.callee with
  |.value _=>b.args.toList
  |.builtin .append=>b.args.toList.drop 1
  |_=>[]
 |_=>[]
def qT (b:Oper):Nat:=match b.dst with
 |some a=>a
 |none=>999999
def jx (a:cR) (c:Nat) (b:Operand->ah):List Operand->cP
 |[]=>[]
 |x::d=>match b x with
  |.ref id []=>bif a.any (λe=>Nat.beq e.1 c&&Nat.beq e.2 id) then id::jx a c b d else jx a c b d
  |_=>jx a c b d
end
section
def Ai {c d:List a} (e:l<=b) (f:b<=c.length):(iF c d l b).length=c.length:=by unfold iF;simp only[mD,eB,kk];omega
def El {d e:List a} (i:b<=l) (j:l<=d.length) (c:Nat):(iF d e b l)[c]?=if b<=c/\c<b+min e.length (l-b) then e[c-b]? else d[c]?:=by
 unfold iF;rw[List.getElem?_append];simp only[eB];rcases bi c b with f|f
 ·rw[ak U,ag U,kj f]
 rw[ag U,List.getElem?_append];simp only[eB];have g:c-min b d.length=c-b:=U;rw[g];by_cases h:c<b+min e.length (l-b)
 ·rw[ak U,ak ⟨f,h⟩,kj U]
 rw[ag U,ag U,jS];congr 1;omega
def nL {k:Type} (tt:List (TypeId×ae)) (d:List (Nat×ay)) (f:Nat) (l:TypeId) (m j:ah) (e:ba->Option k):Option k:=
 match ey tt l with
 |none=>none
 |some i=>match m with
  |.ref id []=>match ai d id with
   |some ⟨.osl a,b⟩=>bif aS i a&&Nat.beq a.size 1&&a.pure then
    (iv d a j).bind λc=>e ⟨some (f,.val (.int .i64) ((min c.length (b.length-0):Nat):Int)),[id],[(id,[])],[(id,⟨.osl a,iF b c 0 b.length⟩)]⟩
    else none
   |_=>none
  |.view id [] h g=>match ai d id with
   |some ⟨.osl a,b⟩=>bif aS i a&&Nat.beq a.size 1&&a.pure then
    (iv d a j).bind λc=>e ⟨some (f,.val (.int .i64) ((min c.length (g-h):Nat):Int)),[id],[(id,[])],[(id,⟨.osl a,iF b c h g⟩)]⟩
    else none
   |_=>none
  |_=>none
def ba.Kf {st:aA}:(ba.mk (some (b,d)) y f e).app st=⟨(b,d)::kill y f st.g,e++del y st.h⟩:=by show aA.mk ((b,d)::kD y f st.g) (e++nR y st.h)=_;rw[pp,so]
section
variable {E:dA} {C:c8} {st:aA} {a:Act} {w:World} {I:Nat->Prop} {rt:Nat->cJ} {fp:Nat->cP} {o:Oper}
def C1 (e:bg C st a.tmps w I rt fp) {b:List n.den} (c:iv st.h n (aE st.g m)=some b):tU I C.B w n (a.eval m) b:=by
 refine rv e ?_;have:=vY c;generalize oA st.h n (aE st.g m)=i at this;cases i with
 |da k=>exact this.symm
 |part l o j=>obtain⟨f,d,rfl⟩:=this;exact⟨f,d,rfl⟩
 |bad=>exact this.elim
def Ah (ds:bg C st a.tmps w I rt fp) {f7:Type} {f3:f7} {d7:ba->Option f7} {d6:Operand} (is:o.op=.call {callee:=.builtin .copy,args:=#[m,d6],argTypes:=#[c,q]}) (Z:o.dst=some W) (gt:C.ok W) {next:Act->World->Prop} {d9:Exit->Act->World->Prop} (io:∀f4 a4 w',(∃p,d7 p=some f3/\f4=p.app st)->a4.defers=a.defers->ev C f4 a4.tmps w'->next a4 w') (go:ey E.tt c=some x) (ii:aS x n=true) (t:n.size=1) (am:n.pure=true) {id:Nat} {k g:List n.den} (O:ai st.h id=some ⟨.osl n,k⟩) (J:b<=l) (K:l<=k.length) (i2:tU I C.B w n (a.eval d6) g) {bl:Option Addr} {el:Nat} (fz:a.eval m=.slice bl (l-b) el) (i1:l-b=0\/∃d j V,rt id=[.slice (some ⟨d,j,none⟩) k.length V]/\bl=some ⟨d,j+b,none⟩) (ge:d7 ⟨some (W,.val (.int .i64) ((min g.length (l-b):Nat):Int)),[id],[(id,[])],[(id,⟨.osl n,iF k g b l⟩)]⟩=some f3):o.wp E.P a w next d9:=by
 obtain⟨f,d8,ao,fa,f9⟩:=ey.ok go;have gc:=f9.lay ii;obtain⟨on,_,a0,_⟩:=gc.info;obtain⟨d5,lt,f5⟩:=ds.tree id _ O;obtain⟨f6,l2,X,f0,d1,hs⟩:=i2;have eq:∀w':World,w'.heap.size=w.heap.size->w'.os=w.os->w'.tape=w.tape->w'.output=w.output->(∀d,d∉fp id->w'.heap[d]?=w.heap[d]?)->(∀d,gz w' d=gz w d)->aD (aY I C.B) w' (.osl n) (rt id) (iF k g b l) (fp id)->
  (Builtin.copy_ #[c,q] o.type #[a.eval m,a.eval d6]).run E.P w=.ok (goInt ((min g.length (l-b):Nat):Int)) w'->o.wp E.P a w next d9:=by
  intro w' k0 la lb le lk lp lo N;have N:(execOp a.eval o).run E.P w=.ok (.value (goInt ((min g.length (l-b):Nat):Int))) w':=(by simp only[execOp,is,resolve,invoke,builtin,Sem.run_bind,Sem.run_pure,Result.andThen_ok,tF,eG,List.map_nil,N]);have i0:=ds.e0 (S:=[id]) (keep:=[(id,[])]) (new:=[(id,⟨.osl n,iF k g b l⟩)]) (rtn:=rt) (fpn:=fp) (w':=w') (I':=I)
   ⟨Nat.le_of_eq k0.symm,la,lb,le,λd Y gl=>lk d (gl id ab _ O),λd _=>.of_eq (lp d),λ_ H=>H,λ_ H=>.inl H,(by
    intro f d4 s;rw[bv] at s;split at s
    ·rename_i p;subst p;cases s;exact⟨.inl ab,lo,lt,λd Y=>⟨(f5 d Y).1,by have:=(f5 d Y).2.2.1;omega,.inr ⟨_,ab,_,O,Y⟩⟩⟩
    ·cases s),(by
    intro f e pm pr s d3 hw;rw[bv] at s d3;split at s
    ·split at d3
     ·rename_i aj ce;exact absurd (aj.symm.trans ce) hw
     cases d3
    ·cases s),(by
    intro p A d4 an;simp only[fe] at A;subst A;have an:ai st.h id=some d4:=an;rw[O] at an;obtain rfl:=dF an;exact⟨⟨.osl n,iF k g b l⟩,by rw[bv,ak rfl],rfl,rfl,⟨_,rfl⟩,λkg _ _ _ u=>by rw[yv] at u;cases u⟩),(by
    intro p A d4 _ kg _ _ _ _ _ Z;simp only[fe] at A;subst A;rw[qH] at Z;cases Z)⟩
  unfold Oper.wp;rw[N];show next (a.put o.dst _) w'
  rw[Z];have am:=i0.put gt (av:=.val (.int .i64) ((min g.length (l-b):Nat):Int)) (v:=goInt ((min g.length (l-b):Nat):Int)) (.val (τ:=.int .i64) (cs:=[.int .i64 _]) ⟨rfl,rfl⟩);have hrel:ev C ((ba.mk (some (W,.val (.int .i64) ((min g.length (l-b):Nat):Int))) [id] [(id,[])] [(id,⟨.osl n,iF k g b l⟩)]).app st) (a.put (some W) (goInt ((min g.length (l-b):Nat):Int))).tmps w':=(by rw[ba.Kf];exact⟨I,_,_,am⟩);exact io _ _ _ ⟨_,ge,rfl⟩ rfl hrel
 have ic:Nat.min g.length (l-b)=min g.length (l-b):=rfl;by_cases u:min g.length (l-b)=0
 ·have gr:iF k g b l=k:=by
   apply hY;intro f;rw[El J K,ag U]
  refine eq w rfl rfl rfl rfl (λ_ _=>rfl) (λ_=>rfl) (by rw[gr];exact d5) ?_;rw[fz,f0,u];exact run_copy_none w c q o.type d8 bl f6 _ _ _ _ fa (by rw[a0.info];simp[a0.size,t]) (by rw[ic];exact u)
 rcases i1 with nn|⟨d,j,V,ft,rfl⟩
 ·omega
 rw[ft] at d5;obtain⟨mp,ne,aj,ce⟩:=d5;simp only[fd,Value.slice.injEq,and_true] at aj;obtain⟨rfl,_,rfl⟩:=aj;rcases ce with⟨bs,_⟩|⟨mt,pl,G,bs,d2,co,cv,dl,ex⟩
 ·cases bs
 cases bs;have cv:k.length<=V:=cv;have co:G.length=k.length:=co;have hr:G.flatten=[]:=AN (λci L=>by
  obtain⟨f,s,rfl⟩:=g3.1 L;have of:f<k.length:=(by rw[<-co];exact s);obtain⟨D,_,_,F⟩:=ex f k[f] G[f] ab ab;exact F.pure am)
 rw[hr] at d2;obtain⟨ap,f2,jn,jp,kd⟩:=d1.cells U;rw[t,Nat.mul_one] at f2;have fT:g≠[]:=λp=>(by rw[p] at u;simp at u);obtain⟨a3,rfl⟩:∃a3,f6=some a3:=by
  rcases d1.2 with H|⟨nd,or,rfl,_⟩
  ·exact absurd H fT
  exact⟨_,rfl⟩
 let i:=ap.take (min g.length (l-b))
 have fn:i.length=min g.length (l-b):=(by simp[i,f2]);have gs:∀e v,i[e]?=some v->ap[e]?=some v:=λe v r=>by
  rw[rI] at r;split at r
  ·exact r
  cases r
 have d0:∀e,e<i.length->(w.cell? ⟨d,j+b+e,none⟩).isSome=true:=λe r=>(dl (j+b+e) U (by rw[t];omega)).1;have N:=run_copy_cells (P:=E.P) w c q o.type d8 d (j+b) (l-b) el a3 g.length l2 i fa (by rw[a0.info];simp[a0.size,t]) (by rw[fn]) (λe v r=>jp a3 rfl fT e v (gs e v r)) d0 (λe r=>(dl (j+b+e) U (by rw[t];omega)).2) (λv y=>jn v (List.mem_of_mem_take y));have fb:d∈fp id:=(by rw[d2];simp);have gf:∀R z,aY I C.B R z->z≠d:=λR z ad p=>ds.notM O d fb R (p▸ad);refine eq (w.setCells d (j+b) i) (tc d i _ w) (na d i _ w).1 (na d i _ w).2.1 (na d i _ w).2.2 (λz u=>vK d i _ w z (λp=>u (p▸fb))) (λz=>vh _ _ _ _ _) ?_ ?_
 ·rw[ft,d2];refine⟨some ⟨d,j,none⟩,V,by rw[Ai J K],.inr ⟨d,j,List.replicate k.length [],rfl,by rw[AN (λci L=>List.eq_of_mem_replicate L)],by rw[Ai J K];simp,by rw[Ai J K];exact cv,?_,?_⟩⟩
  ·intro e i3 i8;obtain⟨mc,mo⟩:=dl e i3 i8;exact⟨by rw[<-mc,(U:e=(j+b)+e-(j+b))];exact(CA d i (j+b) w d0 _).trans (by congr 1),by rw[World.frozen?_setCells];exact mo⟩
  intro f T ci Q L;have hi:ci=[]:=(by have:=jU L;exact List.eq_of_mem_replicate this);subst hi;rw[El J K] at Q;have f1:∀{D:cJ} {T:n.den},aD (aY I C.B) w n D T []->aD (aY I C.B) (w.setCells d (j+b) i) n D T []:=λM=>M.mono (λR z ad=>⟨ad,oj (gf R z ad)⟩) ab;split at Q
  ·rename_i n5;have r:f-b<i.length:=U;have hv:X[f-b]?=some []:=by
    have fs:f-b<X.length:=(by rw[d1.1];omega);rw[bB fs];have:X[f-b]∈X:=dm fs;congr 1;exact(List.flatten_eq_nil_iff.1 hs) _ this
   have M:=kd (f-b) T [] Q hv;rw[t,Nat.mul_one] at M;have hc:(ap.drop (f-b)).take 1=[i[f-b]]:=(by have ib:f-b<ap.length:=U;rw[List.drop_eq_getElem_cons ib];simp only[List.take_succ_cons,List.take_zero,fd,and_true];simp[i]);rw[hc] at M;refine⟨[i[f-b]],by simp[t],?_,f1 M⟩;intro e v y;cases e with
   |zero=>
    simp only[iC,bw] at y;subst y;have:=World.cell?_setCells_in d i (j+b) w d0 (f-b) r;rw[<-this,t];congr 2;omega
   |succ e=>simp at y
  rename_i ol;have no:f<k.length:=(ej.1 Q).1;obtain⟨D,em,f8,F⟩:=ex f T (G[f]'(by omega)) Q ab
  have A:G[f]'(by omega)=[]:=F.pure am
  rw[A] at F;refine⟨D,em,?_,f1 F⟩;intro e v y;have:=f8 e v y;have r:e<D.length:=(ej.1 y).1;rw[World.cell?_setCells_out d i (j+b) w _ (λ_ _=>?_)]
  ·exact this
  rw[em,t] at r;simp only[t];omega
 rw[fz,f0];have:goInt ((min g.length (l-b):Nat):Int)=goInt i.length:=(by rw[fn]);rw[this];exact N
theorem c5.copy {S:Type} {O:S} {H:ba->Option S} {R:Operand} (B:o.op=.call {callee:=.builtin .copy,args:=#[m,R],argTypes:=#[c,q]}) (x:o.dst=some b) (y:C.ok b) (d:nL E.tt st.h b c (aE st.g m) (aE st.g R) H=some O):c5 E C o st (λY=>∃L,H L=some O/\Y=L.app st):=by
 rintro a w ⟨I,rt,fp,f⟩ next an A
 have k:=f.aE m;unfold nL at d;split at d
 ·cases d
 rename_i P D;split at d
 ·rename_i id v;split at d
  case h_2=>cases d
  rename_i j Q i;cases e:(aS P j&&Nat.beq j.size 1&&j.pure) with
  |false=>rw[e] at d;cases d
  |true=>
  rw[e] at d;simp only[a2] at e;obtain⟨ad,p,d⟩:=bP.1 d;rw[v] at k;generalize n:a.eval m=Z at k;cases k with|ref l z=>
  rw[i] at l;cases l;obtain⟨rfl,rfl,rfl⟩:=aF.ei.1 z;have G:=(f.tree id _ i).1;obtain⟨J,s,aj,M⟩:=G;have U:a.eval m=.slice J (Q.length-0) s:=(by rw[n,aj];rfl);refine Ah f B x y A D e.1.1 (dU e.1.2) e.2 i (eU _) (aZ _) (C1 f p) U ?_ d;rcases M with⟨_,rfl,_⟩|⟨r,F,ap,rfl,_⟩
  ·exact .inl rfl
  exact .inr ⟨r,F,s,aj,rfl⟩
 ·rename_i id X av v;split at d
  case h_2=>cases d
  rename_i j Q i;cases e:(aS P j&&Nat.beq j.size 1&&j.pure) with
  |false=>rw[e] at d;cases d
  |true=>
  rw[e] at d;simp only[a2] at e;obtain⟨ad,p,d⟩:=bP.1 d;rw[v] at k;generalize n:a.eval m=Z at k;cases k with|jg=>(exact Ah f B x y A D e.1.1 (dU e.1.2) e.2 i (aZ _) (eU _) (C1 f p) n (.inl rfl) d)|view l z V W a0=>
  rw[i] at l;cases l;rename_i am a4 r F a3 s;obtain⟨t,_,u⟩:=aF.ei.1 z;have t:ae.osl j=ae.osl am:=t;cases t;have N:=dU e.1.2;have G:=(f.tree id _ i).1;obtain⟨J,K,aj,M⟩:=G;rw[aj] at u;simp only[fd,Value.slice.injEq,and_true] at u;obtain⟨rfl,rfl,rfl⟩:=u;refine Ah f B x y A D e.1.1 N e.2 i V W (C1 f p) n ?_ d;by_cases T:K=X
  ·left;omega
  exact .inr ⟨r,F,K,aj,by rw[ag T,N,Nat.mul_one]⟩
 cases d
end
end
section
def aF.cells {w q:World} (e:∀a,q.cell? a=w.cell? a):∀{p:List aM} {τ r:ae} {m n:Loc} {f g:cJ},aF w τ m f p r n g->aF q τ m f p r n g
 |[],τ,_,_,_,_,_,c=>by cases τ<;>exact c
 |s::p,τ,r,m,n,f,g,c=>by
  have u:∀{b o:Nat} {d:cJ},du w b o d->du q b o d:=λy A C z=>(by rw[e];exact y A C z);cases τ<;>cases s<;>simp only[aF] at c
  case osl.idx t i=>
   obtain⟨b,o,B,v,d,h,j,k,l,x⟩:=c;exact⟨b,o,B,v,d,h,j,k,u l,x.cells e⟩
  case optr.deref t=>
   obtain⟨b,o,d,h,j,k,l⟩:=c;exact⟨b,o,d,h,j,u k,l.cells e⟩
  case st.unst t=>exact aF.cells e (τ:=t) c
  case pr.fst a b=>exact aF.cells e (τ:=a) c
  case pr.snd a b=>exact aF.cells e (τ:=b) c
def S7 (a:ae):dp a []=some a:=by cases a<;>rfl
def aF.ti {w:World} {r:List aM}:∀{p:List aM} {τ c:ae} {m n:Loc} {e f:cJ},aF w τ m e p c n f->dp τ (p++r)=dp c r
 |[],τ,_,_,_,_,_,a=>by obtain⟨rfl,_⟩:=aF.ei.1 a;rfl
 |s::p,τ,_,_,_,_,_,a=>by
  cases τ<;>cases s<;>simp only[aF] at a
  case osl.idx t i=>obtain⟨d,o,u,q,g,h,j,k,b,l⟩:=a;exact l.ti
  case optr.deref t=>obtain⟨d,o,g,h,j,k,b⟩:=a;exact b.ti
  case st.unst t=>exact aF.ti (p:=p) (τ:=t) a
  case pr.fst t1 t2=>exact aF.ti (p:=p) (τ:=t1) a
  case pr.snd t1 t2=>exact aF.ti (p:=p) (τ:=t2) a
section
variable {E:dA} {C:c8} {st:aA} {a:Act} {A:cH} {w:World} {I:Nat->Prop} {rt:Nat->cJ} {fp:Nat->cP} {o:Oper} {Q:aA->Prop}
def Ep:∀{p q:List aM},h5 (p++[.deref]) q=true->h5 p q=true
 |[],q,a=>by
  cases q with
  |nil=>cases a
  |cons s q=>
   cases s<;>cases a
 |s::p,[],a=>by cases s<;>cases a
 |s::p,b::q,a=>by cases s<;>cases b<;>first|(cases a;done)|exact Ep (p:=p) (q:=q) a|rfl
def bg.yI (y:bg C st A w I rt fp) {id:Nat} (p:ai st.h id=some F) {av:Loc} (W:aF w F.1 none (rt id) j x av H) {am:List (Int×n.den)} (d1:bH F.1 F.2 j (.mp n) (some (am,b))):∃c L J,H=[.map (some c)]/\c∈fp id/\(∀q a,aY I C.B q a->a≠c)/\eS (aY I C.B) w n c am b L J/\∀{k:Array MapEntry} {e:Nat} {G:List (Int×n.den)} {R:List (Int×Nat×n.den)} {s:F.1.den},eS (aY I C.B) (er w c k e) n c G e k R->hU w (er w c k e) c->dg F.1 F.2 j (.mp n) (some (G,e)) s->∃fs bl,bg C ⟨kill [id] [(id,j++[.deref])] st.g,(id,⟨F.1,s⟩)::del [id] st.h⟩ A (er w c k e) I fs bl:=by
 obtain⟨d9,N,T⟩:=y.tree id F p;obtain⟨f8,f0,f3,fn,bs,ce,ci,v,f4,co,cs⟩:=u2 j (loc:=none) d9 (λ_ _ l=>by cases l) N (λ_ _ l=>by cases l) (y.notM p) d1;obtain⟨a3,aj,K⟩:=W.hl bs;subst a3;subst aj;subst K;obtain⟨c,L,J,rfl,rfl,M⟩:=ce.kG;have z:c∈fp id:=v.mem_iff.2 ab;have S:∀q a,aY I C.B q a->a≠c:=λq a d f=>y.notM p c z q (f▸d);refine⟨c,L,J,rfl,z,S,M,?_⟩;intro k e G R s dl ds Z;have X:=v.nodup_iff.1 N;rw[hI] at X;have Y:∀a∈fn,a≠c:=λa d f=>X.2.2 c ab a d f.symm;have D:=Sg (es':=k) (c':=e) M.h;have d0:=Sh (es':=k) (c':=e) M.h;have ad:∀a,a≠c->br w (er w c k e) a:=λa d=>zh d;obtain⟨f1,a4,em,_,eq,_,P,_,f6⟩:=co (er w c k e) (aY I C.B) [.map (some c)] (some (G,e)) [c] s (λ_ _ l=>l) (λa d=>by
   have d3:a≠c:=by
    rcases d with⟨q,d4⟩|d|⟨o,d7⟩
    ·exact S q a d4
    ·exact Y a d
    cases d7
   exact⟨λu _=>D _,λu=>d0 _,λu=>by rw[D],(ad a d3).2⟩)
  (aD.Gc dl) (λ_ _=>rfl) (λa0 ex f=>by
   have:=(ci a0 ex f).1;exactλu ap t=>by rw[D];exact this u ap t) Z
 obtain rfl:=eq rfl (.inr rfl);have f5:=(T c z).2.2.1;have i:kr C st w (er w c k e) I I rt fp [id] [(id,j++[.deref])] [(id,⟨F.1,s⟩)] (λ_=>rt id) (λ_=>a4):=by
  refine⟨by rw[H9];exact aZ _,rfl,rfl,rfl,?_,?_,λ_ l=>l,λ_ l=>.inl l,?_,?_,?_,?_⟩
  ·intro a _ d;exact vL (λf=>d id ab F p (f▸z))
  ·intro a _;by_cases f:a=c
   ·subst f;exact ds
   exact .of_heap (vL f)
  ·intro O Q i;rw[bv] at i;split at i
   ·rename_i f;subst f;cases i;refine⟨.inl ab,em,?_,λa d=>?_⟩
    ·rw[P.nodup_iff,<-v.nodup_iff];exact N
    have V:a∈fp id:=v.mem_iff.2 (P.mem_iff.1 d);obtain⟨ao,fa,fb,gc⟩:=T a V;exact⟨ao,by rw[H9];exact fb,.inr ⟨id,ab,F,p,V⟩⟩
   cases i
  ·intro O u Q ap m t d2;rw[bv] at m t;split at m
   ·split at t
    ·rename_i aj K;exact absurd (aj.symm.trans K) d2
    cases t
   cases m
  ·intro O m Q i;simp only[fe] at m;subst m;rw[p] at i;obtain rfl:=dF i;refine⟨⟨F.1,s⟩,by rw[bv,ak rfl],rfl,rfl,?_,λan gl f9 fT _ d8=>d8.cells D⟩;have cv:=W.ti (r:=[.deref]);have:∃ft,dp (.mp n) [.deref]=some ft:=⟨n,S7 n⟩;rw[cv];exact this
  intro O m Q i an gf ge f7 fz f2 E d6 d5 U el;simp only[fe] at m;subst m;rw[p] at i;obtain rfl:=dF i;have E:=Ep E;refine⟨⟨F.1,s⟩,by rw[bv,ak rfl],qI E Z U,λa d=>?_⟩;obtain⟨ao,fa⟩:=cs an _ _ _ _ _ E (by exact d6) U d5 el a d;exact⟨P.mem_iff.2 (kl _ ao),ad a (Y a ao)⟩
 exact⟨_,_,y.e0 i⟩
def n6 {α:Type} (c:Option (List (Int×α)×Nat)) (b:Int) (d:α):Option (Option (List (Int×α)×Nat)):=match c with
 |none=>none
 |some a=>some (some (gk a.1 b d,bif (dJ a.1 b).isSome then a.2 else a.2+1))
def ld {f:Type} (tt:List (TypeId×ae)) (i:List (Nat×ay)) (h:TypeId) (n d m:ah) (g:ba->Option f):Option f:=
 match n with
 |.ref id c=>match ai i id with
  |some a=>match im tt h,d,m with
   |some l,.val (.int .i64) d,.val p e=>match dp a.1 c with
    |some (.mp b)=>bif aS l b then match fD b e with
     |some e=>(fo a.1 a.2 c (.mp b)).bind λj=>(n6 (α:=b.den) j d e).bind λk=>(jE a.1 a.2 c (.mp b) k).bind λo=>g ⟨none,[id],[(id,c++[.deref])],[(id,⟨a.1,o⟩)]⟩
     |none=>none
     else none
    |_=>none
   |_,_,_=>none
  |none=>none
 |_=>none
def N6 {α:Type} (c:Option (List (Int×α)×Nat)) (b:Int):Option (Option (List (Int×α)×Nat)):=match c with
 |none=>none
 |some a=>some (some (gK a.1 b,a.2))
def n7 {e:Type} (tt:List (TypeId×ae)) (h:List (Nat×ay)) (g:TypeId) (l d:ah) (f:ba->Option e):Option e:=
 match l with
 |.ref id b=>match ai h id with
  |some a=>match im tt g,d with
   |some k,.val (.int .i64) d=>match dp a.1 b with
    |some (.mp c)=>bif aS k c then
     (fo a.1 a.2 b (.mp c)).bind λi=>(N6 (α:=c.den) i d).bind λj=>(jE a.1 a.2 b (.mp c) j).bind λm=>f ⟨none,[id],[(id,b++[.deref])],[(id,⟨a.1,m⟩)]⟩
     else none
    |_=>none
   |_,_=>none
  |none=>none
 |_=>none
theorem Gh {D:Type} {A:D} {s:ba->Option D} {f e:Operand} (j:o.op=.mapUpdate c f m e\/o.op=.insert c f m e) (T:o.dst=none) (b:ld E.tt st.h c (aE st.g f) (aE st.g m) (aE st.g e) s=some A):c5 E C o st (λco=>∃u,s u=some A/\co=u.app st):=by
 rintro a w ⟨I,rt,fp,i⟩ next d3 X
 have q:=i.aE f;have d:=i.aE m;have p:=i.aE e;unfold ld at b;split at b
 case h_2=>cases b
 rename_i id d7 J;split at b
 case h_2=>cases b
 rename_i fb y;split at b
 case h_2=>cases b
 rename_i dl k fa eq S F H;obtain⟨ds,d2,cs,cv,d8⟩:=im.ok S;split at b
 case h_2=>cases b
 rename_i r Z;cases n:aS dl r with
 |false=>rw[n] at b;cases b
 |true=>
 rw[n] at b;simp only[cond_true] at b;split at b
 case h_2=>cases b
 rename_i em an;obtain⟨a3,V,L⟩:=bP.1 b;obtain⟨d6,v,M⟩:=bP.1 L;obtain⟨ex,ap,N⟩:=bP.1 M;cases a3 with
 |none=>cases v
 |some a4=>
 obtain⟨av,t⟩:=a4;cases v;cases hO an;rw[J] at q;rw[F] at d;rw[H] at p;generalize am:a.eval f=el at q;generalize W:a.eval m=d5 at d;generalize ad:a.eval e=d9 at p;cases d with|val ce=>
 obtain⟨_,rfl⟩:=ce;cases p with|val B=>
 cases q with|ref z x=>
 rw[y] at z;cases z;obtain⟨l,d4,d0,rfl,n,Q,O,U⟩:=i.yI y x (gi V);have:=x.ty;rw[Z] at this;cases this;obtain⟨G,d1,ao,bl,bs⟩:=O.update (P:=E.P) cs cv k B.len B;obtain⟨ci,K,R⟩:=U (bl (λa0 m d=>⟨d,Q a0 m d⟩)) bs (kb ap);unfold Oper.wp;have Y:(execOp a.eval o).run E.P w=.ok .skip (er w l G (bif (dJ av k).isSome then t else t+1)):=by
  have this:∀r:ae,bn (.mp r) [Value.map (some l)]=.map (some l):=λ_=>rfl;rcases j with j|j<;>
  ·simp only[execOp,j,am,W,ad,Sem.run_bind];rw[this,show bn (.int .i64) [Value.int .i64 k]=.int .i64 k from rfl,ao];rfl
 rw[Y];show next (a.put o.dst undef) _
 rw[T];refine X _ _ _ ⟨_,N,?_⟩ rfl ⟨I,ci,K,R⟩;rfl
theorem Of {y:Type} {x:y} {p:ba->Option y} {e:Operand} (U:o.op=.call {callee:=.builtin .delete,args:=#[e,m],argTypes:=#[c,q]}) (O:o.dst=none) (b:n7 E.tt st.h c (aE st.g e) (aE st.g m) p=some x):c5 E C o st (λa3=>∃r,p r=some x/\a3=r.app st):=by
 rintro a w ⟨I,rt,fp,i⟩ next cv T
 have k:=i.aE e;have d:=i.aE m;unfold n7 at b;split at b
 case h_2=>cases b
 rename_i id d2 D;split at b
 case h_2=>cases b
 rename_i d6 u;split at b
 case h_2=>cases b
 rename_i bs l N A;obtain⟨ce,cs,a4,bl,d3⟩:=im.ok N;split at b
 case h_2=>cases b
 rename_i n W;cases j:aS bs n with
 |false=>rw[j] at b;cases b
 |true=>
 rw[j] at b;simp only[cond_true] at b;obtain⟨ad,R,G⟩:=bP.1 b;obtain⟨d1,s,H⟩:=bP.1 G;obtain⟨d5,Y,J⟩:=bP.1 H;cases ad with
 |none=>cases s
 |some am=>
 obtain⟨d0,z⟩:=am;cases s;rw[D] at k;rw[A] at d;generalize X:a.eval e=d4 at k;generalize S:a.eval m=ds at d;cases d with|val av=>
 obtain⟨_,rfl⟩:=av;cases k with|ref v t=>
 rw[u] at v;cases v;obtain⟨f,dl,ci,rfl,j,L,K,Q⟩:=i.yI u t (gi R);have:=t.ty;rw[W] at this;cases this;obtain⟨B,co,ao,an,ap⟩:=K.delete (P:=E.P) a4 bl l o.type q;obtain⟨a0,F,M⟩:=Q (an (λZ m d=>⟨d,L Z m d⟩)) ap (kb Y);unfold Oper.wp;have V:(execOp a.eval o).run E.P w=.ok (.value (.tuple #[])) (er w f B z):=(by simp only[execOp,U,resolve,invoke,builtin,Sem.run_bind,Sem.run_pure,Result.andThen_ok,tF,eG,List.map_nil,X,S];have this:∀n:ae,bn (.mp n) [Value.map (some f)]=.map (some f):=λ_=>rfl;rw[this,show bn (.int .i64) [Value.int .i64 l]=.int .i64 l from rfl,ao];rfl);rw[V];show next (a.put o.dst (.tuple #[])) _
 rw[O];refine T _ _ _ ⟨_,J,?_⟩ rfl ⟨I,a0,F,M⟩;rfl
def rc (c:List (Nat×ay)) (f g:ah):Option (Nat×List aM×Nat×ay):=match f,g with
 |.ref id (e::d),.ref a []=>match ai c a with
  |some b=>match b.1 with
   |.osl h=>match h.pure with
    |true=>none
    |false=>some (id,e::d,a,b)
   |_=>none
  |none=>none
 |_,_=>none
def tW {h:Type} (tt:List (TypeId×ae)) (e:List (Nat×ay)) (b:Nat) (j:TypeId) (id:Nat) (c:List aM) (f:Nat) (k:ay) (i:ba->Option h):Option h:=
 match ey tt j,ai e id,ai e b with
 |some l,some d,none=>match dp d.1 c with
  |some (.osl a)=>match fD (.osl a) k.2 with
   |some g=>bif aS l a&&(Nat.ble a.size 1300&&(a.hR&&!(Nat.beq f id))) then
    (fo d.1 d.2 c (.osl a)).bind λm=>(dd (List.length (α:=a.den) m+List.length (α:=a.den) g)).bind λ_=>i ⟨some (b,.app id c a g [b,f]),[id],[(id,c),(id,[])],[(b,⟨.bJ,()⟩),(id,d)]⟩
    else none
   |none=>none
  |_=>none
 |_,_,_=>none
def k2 {g:Type} (tt:List (TypeId×ae)) (h:List (Nat×ae)) (a:List (Nat×ay)) (d:Nat) (c:TypeId) (e f:ah) (b:ba->Option g):Option g:=match rc a e f with
 |some (id,j,i,k)=>tW tt a d c id j i k b
 |none=>lM tt h a d c e f b
def B8 {id:Nat} (a:rc e d t=some (id,j,b,F)):d=.ref id j/\t=.ref b []/\ai e b=some F:=by
 unfold rc at a;split at a
 ·split at a
  ·rename_i f c;split at a
   ·split at a
    ·cases a
    cases a;exact⟨rfl,rfl,c⟩
   cases a
  cases a
 cases a
theorem Kc {K:Type} {F:K} {s:ba->Option K} {H:Operand} (z:o.op=.call {callee:=.builtin .append,args:=#[H,m],argTypes:=#[c,c]}) (v:o.dst=some b) (x:C.ok b) (d:k2 E.tt k st.h b c (aE st.g H) (aE st.g m) s=some F):c5 E C o st (λbl=>∃e,s e=some F/\bl=e.app st):=by
 unfold k2 at d;split at d
 case h_2=>exact c5.app z v x (J9 d (λe q=>⟨e,q,rfl⟩))
 rename_i id ds i bs ad;obtain⟨R,S,n⟩:=B8 ad;unfold tW at d;split at d
 case h_2=>cases d
 rename_i ce d5 P an Q;split at d
 case h_2=>cases d
 rename_i j cs;split at d
 case h_2=>cases d
 rename_i d3 av;cases f:(aS ce j&&(Nat.ble j.size 1300&&(j.hR&&!(Nat.beq i id)))) with
 |false=>rw[f] at d;cases d
 |true=>
 rw[f] at d;simp only[a2] at f;obtain⟨V,am,Y,l⟩:=f;have l:i≠id:=λe=>(by subst e;rw[oM] at l;cases l);obtain⟨d2,ap,N⟩:=bP.1 d;obtain⟨_,W,O⟩:=bP.1 N;obtain⟨d4,J⟩:=bs;cases hO av;rintro a w ⟨I,rt,fp,p⟩ next ci Z
 refine DK (S2:=[i]) z v x p Z P V (ek am) Y R an Q (gi ap) ?_ ?_ (sI W) ⟨_,O,rfl⟩
 ·have r:=p.aE m;rw[S] at r;generalize cv:a.eval m=d1 at r;cases r with|ref D X=>
  rw[n] at D;cases D;obtain⟨rfl,rfl,rfl⟩:=aF.ei.1 X;obtain⟨G,a4,d0⟩:=p.tree i _ n;have a0:=G;obtain⟨t,u,A,co⟩:=a0;have a3:aD (aY I C.B) w (.osl j) [.slice t (List.length (α:=j.den) J) u] J (fp i):=(by rw[<-A];exact G);obtain⟨_,_,M,q,T,U,_⟩:=hF.osl a3;exact⟨t,u,M,by rw[A];rfl,q,U a4,λL f=>⟨i,ab,_,n,T L f⟩⟩
 intro dl y;simp only[fe] at y;subst y;exact⟨l,_,n⟩
end
end
section
section
variable {P:Program} {w:World} {b c:Nat} {A:Array MapEntry} {M:bI->Nat->Prop} {t:ae} {l:List (Int×t.den)} {L:List (Int×Nat×t.den)}
def CB {d f:Array MapEntry} {e:Nat} (g:w.heap[b]?=some (.map A c)) (h:er w b d W=er w b f e):d=f/\W=e:=by have a:=kQ (es':=d) (c':=W) g;rw[h,kQ g] at a;simp only[bw,Obj.map.injEq] at a;exact⟨a.1.symm,a.2.symm⟩
def eS.DU (f:eS M w t b l c A L) (h:A[W]?=some O):∃d a,L[W]?=some d/\O=⟨.int .i64 d.1,bn t a,d.2.1⟩:=by have i:W<L.length:=(by have:=(lw.1 h).1;rw[f.n] at this;exact this);obtain⟨a,_,g,_⟩:=f.e W L[W] (bB i);rw[h] at g;exact⟨L[W],a,bB i,dF g⟩
def eS.Td (h:eS M w t b l c A L) {a:Nat} {e f:Int×Nat×t.den} (d:L[W]?=some e) (m:L[a]?=some f) (g:e.1=f.1):W=a:=by have n:=h.l4.sU;have k:W<(L.map (·.1)).length:=(by have:=(ej.1 d).1;simpa using this);apply(List.getElem?_inj k n (i:=W) (j:=a)).1;rw[gq,gq,d,m];simp[g]
def eS.Tc (h:eS M w t b l c A L) {d:Nat} {f a:Int×Nat×t.den} (e:L[W]?=some f) (m:L[d]?=some a) (g:f.2.1=a.2.1):W=d:=by have n:=h.l4.2.2.1;have k:W<(L.map λa=>a.2.1).length:=(by have:=(ej.1 e).1;simpa using this);apply(List.getElem?_inj k n (i:=W) (j:=d)).1;rw[gq,gq,e,m];simp[g]
def Gb {c:Array a} {d e:a->a} (f:∀b,c[W]?=some b->d b=e b):c.modify W d=c.modify W e:=by
 apply Array.ext_getElem?;intro i;rw[tr,tr];split
 ·rename_i b;subst b;cases g:c[W]? with
  |none=>rfl
  |some h=>simp[f h g]
 rfl
def eS.entry (d:eS M w t b l c A L) {B z:TypeId} {R:IntKind} (n:P.underlying q=some (.map B z)) (g:P.underlying B=some (.int R)) (a:Int) {y:t.den} (O:H.length=t.size) (I:aD M w t H y []) (Q:∀w,(zeroValue z).run P w=.ok (bn t H) w):∃(f:Array MapEntry) (o:List (Int×Nat×t.den)) (v:cJ) (p e:Nat),(Instr.mapEntry q (.map (some b)) (.int .i64 a)).run P w=.ok (.tuple #[bn t v,goInt ((p:Nat):Int)]) (er w b f (bif (dJ l a).isSome then c else c+1))/\aD M w t v ((dJ l a).getD y) []/\f[e]?=some (MapEntry.mk (.int .i64 a) (bn t v) p)/\(∀{C:bI->Nat->Prop},(∀J a,M J a->C J a/\a≠b)->eS C (er w b f (bif (dJ l a).isSome then c else c+1)) t b (gk l a ((dJ l a).getD y)) (bif (dJ l a).isSome then c else c+1) f o)/\hU w (er w b f (bif (dJ l a).isSome then c else c+1)) b:=by
 rcases d.find (P:=P) g a with⟨x,N,s⟩|⟨e,p,T,r,x,N,s,u,D,E⟩
 ·obtain⟨f,o,ao,i,j⟩:=d.update (P:=P) n g a O I;rw[x] at ao i j|-;simp only[Option.isSome_none,cond_false,Option.getD_none] at ao i j|-;have k:(Instr.mapUpdate q (.map (some b)) (.int .i64 a) (bn t H)).run P w=.ok () (er w b (A.push ⟨.int .i64 a,bn t H,c⟩) (c+1)):=by
   simp only[Instr.mapUpdate,Sem.run_bind,run_underlying n,Result.andThen_ok,run_getObj_map d.h,li g,s];exact m9 d.h
  rw[ao] at k;simp only[Result.ok.injEq,true_and] at k;obtain⟨rfl,_⟩:=CB d.h k;refine⟨_,o,H,c,A.size,?_,I,by rw[Array.getElem?_push,ak rfl],i,j⟩;simp only[Instr.mapEntry,Sem.run_bind,run_underlying n,Result.andThen_ok,run_getObj_map d.h,li g,s,Q,m9 d.h,Sem.run_pure];rfl
 obtain⟨f,o,ao,i,j⟩:=d.update (P:=P) n g a s D;rw[x] at ao i j|-;simp only[wk,cond_true,rP] at ao i j|-;have G:(Instr.keyThatStays (((A[e]?).map (·.key)).getD (.int .i64 a)) (.int .i64 a)).run P w=.ok (.int .i64 a) w:=(by rw[u];simp[Instr.keyThatStays,Instr.sameBits]);have k:(Instr.mapUpdate q (.map (some b)) (.int .i64 a) (bn t r)).run P w=.ok () (er w b (A.modify e λm=>{m with key:=.int .i64 a,val:=bn t r}) c):=(by simp only[Instr.mapUpdate,Sem.run_bind,run_underlying n,Result.andThen_ok,run_getObj_map d.h,li g,E,G];exact m9 d.h);rw[ao] at k;simp only[Result.ok.injEq,true_and] at k;obtain⟨rfl,_⟩:=CB d.h k;refine⟨_,o,r,p,e,?_,D,by rw[tr,ak rfl,u];rfl,i,j⟩;have aj:(A.modify e λm=>{m with key:=.int .i64 a,val:=bn t r})=A.modify e λm=>{m with key:=.int .i64 a}:=Gb λm F=>(by rw[u] at F;cases F;rfl);have K:((A[e]?).map λS=>((S.born:Nat):Int)).getD 0=(p:Int):=(by rw[u];rfl);simp only[Instr.mapEntry,Sem.run_bind,run_underlying n,Result.andThen_ok,run_getObj_map d.h,li g,E,G,m9 d.h,Sem.run_pure,aj,K];rfl
def eS.LL (d:eS M w t b l c A L) {a:Int} (i:A[W]?=some O) (o:O.key=.int .i64 a) {y J:TypeId} {ap:IntKind} (C:P.underlying q=some (.map y J)) (n:P.underlying y=some (.int ap)) {I:t.den} (T:H.length=t.size) (an:aD M w t H I []):∃f k,(Instr.entryStore q (.map (some b)) (.int .i64 (O.born:Int)) (bn t H)).run P w=.ok () (er w b f (bif (dJ l a).isSome then c else c+1))/\(∀{z:bI->Nat->Prop},(∀F a,M F a->z F a/\a≠b)->eS z (er w b f (bif (dJ l a).isSome then c else c+1)) t b (gk l a I) (bif (dJ l a).isSome then c else c+1) f k)/\hU w (er w b f (bif (dJ l a).isSome then c else c+1)) b:=by
 obtain⟨j,a4,p,D⟩:=d.DU i;have E:j.1=a:=(by rw[D] at o;simpa using o);rcases d.find (P:=P) n a with⟨B,m,K⟩|⟨e,cv,dl,a3,B,m,K,N,bs,Q⟩
 ·exact absurd E (m j (jU p))
 obtain rfl:e=W:=d.Td m p (by simp[E]);obtain⟨f,k,ao,u,v⟩:=d.update (P:=P) C n a T an;rw[B] at ao u v|-;simp only[wk,cond_true] at ao u v|-;have Z:(Instr.keyThatStays (((A[e]?).map (·.key)).getD (.int .i64 a)) (.int .i64 a)).run P w=.ok (.int .i64 a) w:=(by rw[N];simp[Instr.keyThatStays,Instr.sameBits]);have x:(Instr.mapUpdate q (.map (some b)) (.int .i64 a) (bn t H)).run P w=.ok () (er w b (A.modify e λO=>{O with key:=.int .i64 a,val:=bn t H}) c):=(by simp only[Instr.mapUpdate,Sem.run_bind,run_underlying C,Result.andThen_ok,run_getObj_map d.h,li n,Q,Z];exact m9 d.h);rw[ao] at x;simp only[Result.ok.injEq,true_and] at x;obtain⟨rfl,_⟩:=CB d.h x;refine⟨_,k,?_,u,v⟩;have aj:(A.modify e λO=>{O with key:=.int .i64 a,val:=bn t H})=A.modify e λO=>{O with val:=bn t H}:=Gb λbl g=>(by rw[i] at g;cases g;rw[<-o]);have V:A.findIdx? (λav=>(av.born:Int)==(O.born:Int))=some e:=by
  rw[Array.findIdx?_eq_some_iff_getElem];have X:=(lw.1 i).1;refine⟨X,?_,λr cs ad=>?_⟩
  ·rw[(lw.1 i).2];simp
  have Y:r<A.size:=U;obtain⟨G,a0,am,g⟩:=d.DU (tq Y);have co:(A[r].born:Int)=(O.born:Int):=(by simpa using ad);have S:G.2.1=j.2.1:=(by have ce:A[r].born=G.2.1:=(by rw[g]);have ci:O.born=j.2.1:=(by rw[D]);omega);have:=d.Tc am p S;omega
 have R:∀(s:Int) (w:World),(asInt (.int .i64 s)).run P w=.ok s w:=λs w=>(by simp[asInt,asIntOf]);simp only[Instr.entryStore,Sem.run_bind,Sem.run_pure,Result.andThen_ok,run_getObj_map d.h,R,V,m9 d.h,aj];rfl
end
def n8 {f:Type} (tt:List (TypeId×ae)) (j:List (Nat×ay)) (i:Nat) (h:TypeId) (m a:ah) (g:ba->Option f):Option f:=
 match m with
 |.ref id c=>match ai j id with
  |some b=>match im tt h,a with
   |some l,.val (.int .i64) a=>match dp b.1 c with
    |some (
     .mp t)=>match jj t with
     |some e=>bif aS l t then
      (fo b.1 b.2 c (.mp t)).bind λd=>(n6 (α:=t.den) d a ((hE d a).getD e)).bind λk=>(jE b.1 b.2 c (.mp t) k).bind λn=>
       g ⟨some (i,.dh [.val t ((hE (α:=t.den) d a).getD e),.h8 id c a]),[id],[(id,c++[.deref])],[(id,⟨b.1,n⟩)]⟩
      else none
     |none=>none
    |_=>none
   |_,_=>none
  |none=>none
 |_=>none
def nS {b:Type} (tt:List (TypeId×ae)) (e:List (Nat×ay)) (d:TypeId) (k i j:ah) (c:ba->Option b):Option b:=
 match k,i with
 |.ref id a,.h8 f h g=>bif Nat.beq f id&&ja h a then ld tt e d (.ref id a) (.val (.int .i64) g) j c else none
 |_,_=>none
def dg.ig:∀{p:List aM} {τ:ae} {e g:τ.den} {d:ae} {f:d.den},dg τ e p d f g->bH τ g p d f
 |[],τ,e,g,d,f,c=>by obtain⟨j,c⟩:=dg.ei.1 c;exact bH.ei.2 ⟨j,c⟩
 |s::p,τ,e,g,d,f,c=>by
  cases τ<;>cases s<;>simp only[dg] at c
  case osl.idx t i=>
   obtain⟨j,h,k,c,rfl⟩:=c;have l:i<e.length:=(ej.1 k).1;exact⟨h,by rw[jT l],dg.ig (p:=p) c⟩
  case optr.deref t=>exact dg.ig (p:=p) (τ:=t) c
  case st.unst t=>exact dg.ig (p:=p) (τ:=t) c
  case pr.fst a b=>obtain⟨h,c,rfl⟩:=c;exact dg.ig (p:=p) c
  case pr.snd a b=>obtain⟨h,c,rfl⟩:=c;exact dg.ig (p:=p) c
def Ft:∀a:List aM,eM (a++[.deref]) a=true
 |[]=>rfl
 |s::a=>by cases s<;>exact Ft a
def NA (id:Nat) (a:List aM):dI [id] [(id,a++[.deref])] (.ref id a)=.ref id a:=by
 have:iK [(id,a++[.deref])] (.ref id a)=true:=by
  cases a with
  |nil=>simp[iK]
  |cons b a=>
   have:=Ft (b::a);simp only[iK,List.any_cons,List.any_nil,Bool.or_false,oM,Bool.true_and];exact this
 show dj _ _ _=_;unfold dj;rw[show hn [id] [(id,a++[.deref])] (.ref id a)=iK [(id,a++[.deref])] (.ref id a) from rfl,this];simp
def QO {id:Nat} (a:aE D m=.ref id j):aE (kill [id] [(id,j++[.deref])] D) m=.ref id j:=by
 cases m with
 |tmp c=>
  have a:gt D c=.ref id j:=a;have b:=n1 [id] [(id,j++[aM.deref])] D c;rw[a] at b;exact b.trans (NA id j)
 |const d=>exact absurd a (by cases d<;>simp[aE])
 |global D=>cases a
 |func e=>cases a
section
variable {E:dA} {C:c8} {st:aA} {o:Oper} {Q:aA->Prop}
def On {a:Act} {e:Nat->Prop} (k:bg C i a.tmps v e z A) {id:Nat} (r:aE i.g m=.ref id j) (c:ai i.h id=some F) {t:ae} {I:List (Int×t.den)} (x:bH F.1 F.2 j (.mp t) (some (I,l))) {b:Nat} (H:a.eval m=.map (some b)) {f:Array MapEntry} (D:v.heap[b]?=some (.map f l)) (y:f[W]?=some O) {n:Int} (u:O.key=.int .i64 n):bk (aY e C.B) v i.h z A (.h8 id j n) (.int .i64 (O.born:Int)):=by
 have d:=k.aE (a:=a) m;rw[r,H] at d;generalize G:Value.map (some b)=S at d;cases d with|ref p o=>
 rename_i R T Q L;rw[c] at p;obtain rfl:=dF p;obtain⟨rfl,N,E,_,w⟩:=k.ig c x o;rcases E.BF with⟨O,_⟩|⟨q,P,K,M,J,_,rfl,rfl,_⟩
 ·cases O
 have s:b=q:=(by simpa[bn] using G);subst s;exact .h8 c o (w b ab) (kE.2 D) y u
theorem Oo {V:a} {z:ba->Option a} {p:Operand} (cv:o.op=.mapEntry q p m) (a3:o.dst=some W) (a0:C.ok W) (d:n8 E.tt st.h W q (aE st.g p) (aE st.g m) z=some V):c5 E C o st (λy=>∃G,z G=some V/\y=G.app st):=by
 rintro j w ⟨r,gc,f4,s⟩ next f3 cs
 have v:=s.aE p;have e:=s.aE m;unfold n8 at d;split at d
 case h_2=>cases d
 rename_i id d5 I;split at d
 case h_2=>cases d
 rename_i Z Q;split at d
 case h_2=>cases d
 rename_i fn n ap am;obtain⟨f1,ad,ex,fa,fb⟩:=im.ok ap;split at d
 case h_2=>cases d
 rename_i t d0;split at d
 case h_2=>cases d
 rename_i fp d1;cases u:aS fn t with
 |false=>rw[u] at d;cases d
 |true=>
 rw[u] at d;simp only[cond_true] at d;obtain⟨d4,bs,f⟩:=bP.1 d;obtain⟨f9,k,i⟩:=bP.1 f;obtain⟨Y,T,J⟩:=bP.1 i;clear d f i;cases d4 with
 |none=>cases k
 |some d6=>
 obtain⟨l,c⟩:=d6;rw[I] at v;rw[am] at e;generalize S:j.eval p=gf at v;generalize ci:j.eval m=f8 at e;cases e with|val em=>
 obtain⟨_,rfl⟩:=em;cases v with|ref R O=>
 rw[Q] at R;cases R;obtain⟨b,A,L,rfl,f5,M,K,bl⟩:=s.yI Q O (gi bs);have:=O.ty;rw[d0] at this;cases this;obtain⟨f7,f0,fs,ft,fz,fT⟩:=rz (fb.lay u) d1;have d2:∀w,(zeroValue ad).run E.P w=.ok (bn t f0.cells.toList) w:=λw=>(by rw[<-fz];simp[zeroValue,typeInfo,fs,ft]);have U:=fT (aY r C.B) w;obtain⟨H,f2,F,y,f6,ao,d7,d8,d9,el⟩:=K.entry (P:=E.P) ex fa n U.len U d2;have co:hE (α:=t.den) (some (l,c)) n=dJ l n:=rfl;rw[co] at k J;simp only[n6,bw] at k;subst k;generalize(bif (dJ l n).isSome then c else c+1)=D at*;generalize(dJ l n).getD fp=X at*;obtain⟨eq,an,N⟩:=bl (d9 (λx m e=>⟨e,M x m e⟩)) el (kb T);have ds:(execOp j.eval o).run E.P w=.ok (.value (.tuple #[bn t F,goInt ((y:Nat):Int)])) (er w b H D):=(by simp only[execOp,cv,S,ci,Sem.run_bind];have this:∀t:ae,bn (.mp t) [Value.map (some b)]=.map (some b):=λ_=>rfl;rw[this,show bn (.int .i64) [Value.int .i64 n]=.int .i64 n from rfl,ao];rfl);unfold Oper.wp;rw[ds];show next (j.put o.dst _) _
 rw[a3];have ce:ai ((id,(⟨Z.1,Y⟩:ay))::del [id] st.h) id=some ⟨Z.1,Y⟩:=(by rw[bv,ak rfl]);have dl:aD (aY r C.B) (er w b H D) t F X []:=d7.mono (λx m e=>⟨e,zh (M x m e)⟩) ab;have a4:=On N (QO I) ce (dg.ig (kb T)) S (kQ K.h) d8 (n:=n) rfl;refine cs _ _ _ ⟨_,J,?_⟩ rfl ⟨r,eq,an,N.put a0 (av:=.dh [.val t X,.h8 id d5 n]) ?_⟩
 ·rfl
 refine .dh rfl (λd3 av ge f i=>?_)
 match d3 with
 |0=>simp at f i;subst f;subst i;exact .val dl
 |1=>simp at f i;subst f;subst i;exact a4
 |n+2=>simp at f
theorem LQ {N:a} {x:ba->Option a} {k j:Operand} (bl:o.op=.entryStore q k m j) (am:o.dst=none) (d:nS E.tt st.h q (aE st.g k) (aE st.g m) (aE st.g j) x=some N):c5 E C o st (λm=>∃y,x y=some N/\m=y.app st):=by
 rintro e w ⟨Q,f0,fp,i⟩ next fn a4
 have v:=i.aE k;have r:=i.aE m;have u:=i.aE j;unfold nS at d;split at d
 case h_2=>cases d
 rename_i id d4 ds d5 d3 V T;cases f:(Nat.beq ds id&&ja d5 d4) with
 |false=>rw[f] at d;cases d
 |true=>
 rw[f] at d;rw[a2] at f;obtain rfl:=dU f.1;obtain rfl:=ja.ok f.2;simp only[cond_true] at d;unfold ld at d;simp only at d;split at d
 case h_2=>cases d
 rename_i f9 s;split at d
 case h_2=>cases d
 rename_i eq fT f8 f6 ad B U;simp only[ah.val.injEq,heq_eq_eq,true_and] at B;subst B;obtain⟨ex,fb,el,em,f2⟩:=im.ok ad;split at d
 case h_2=>cases d
 rename_i t ci;cases H:aS eq t with
 |false=>rw[H] at d;cases d
 |true=>
 rw[H] at d;simp only[cond_true] at d;split at d
 case h_2=>cases d
 rename_i f5 cv;obtain⟨d2,ap,D⟩:=bP.1 d;obtain⟨fz,n,F⟩:=bP.1 D;obtain⟨f7,dl,X⟩:=bP.1 F;clear d D F;cases d2 with
 |none=>cases n
 |some d6=>
 obtain⟨l,c⟩:=d6;cases hO cv;rw[V] at v;rw[T] at r;rw[U] at u;generalize cs:e.eval k=f4 at v;generalize ce:e.eval m=f1 at r;generalize co:e.eval j=f3 at u;cases u with|val O=>
 cases r with|h8 M a3 fs J av a0=>
 rw[s] at M;cases M;cases v with|ref K p=>
 rw[s] at K;cases K;obtain⟨b,A,L,rfl,ft,Y,G,an⟩:=i.yI s p (gi ap);have:=p.ty;rw[ci] at this;cases this;obtain⟨aj,_,z⟩:=p.hl a3;simp only[fd,Value.map.injEq,bw,and_true] at z;subst z;rw[kE.2 G.h] at J;cases J;obtain⟨S,fa,ao,d7,d8⟩:=G.LL (P:=E.P) av a0 el em O.len O;simp only[n6,bw] at n;subst n;generalize(bif (dJ l d3).isSome then c else c+1)=R at*;obtain⟨d9,W,Z⟩:=an (d7 (λd1 d0 I=>⟨I,Y d1 d0 I⟩)) d8 (kb dl);unfold Oper.wp;have bs:(execOp e.eval o).run E.P w=.ok .skip (er w b S R):=(by have this:∀t:ae,bn (.mp t) [Value.map (some b)]=.map (some b):=λ_=>rfl;simp only[execOp,bl,cs,ce,co,Sem.run_bind];rw[this,ao];rfl);rw[bs];show next (e.put o.dst undef) _
 rw[am];refine a4 _ _ _ ⟨_,X,?_⟩ rfl ⟨Q,d9,W,Z⟩;rfl
end
end
section
structure JV where
 c:Code
 n:Nat
 pin:Option cP
 ds:cP
 α:Type
 f:aA->Option α
 g:aA->α->aA
structure eQ where
 tt:List (TypeId×ae)
 zo:List (Nat×g1)
 an:List (Nat×ae)
 n:Nat
 pin:cP
 kg:List (Nat×ah)
 nY:cR
 Sr:Option cl
 aR:cI
 VO:List JV
 nZ:List qh
def C4 (b:Program) (c:TypeId):Prop:=∃a e d,b.info? c=some a/\a.size=1/\a.zero=some e/\e.cells.size=1/\b.underlying c=some d/\(match d with|.struct _|.array _ _=>true|_=>false)=false
def u0:List eV->List ah->Bool
 |.c d _::a,.bY b _::as=>Nat.beq b d&&u0 a as
 |.c _ _::_,_=>false
 |_::a,_::as=>u0 a as
 |_,_=>true
def pw:List (Nat×g1)->Nat->List ah->Option g1
 |[],_,_=>none
 |(k,F)::l,f,as=>bif Nat.beq k f&&(u0 F.ps as&&(g0 0 F.ps).isNone) then some F else pw l f as
theorem Bp:∀{e:List (Nat×g1)} {c:Nat} {as:List ah} {b:g1},pw e c as=some b->∃d,(d,b)∈e
 |[],_,_,_,a=>by cases a
 |(d,G)::e,c,as,b,a=>by
  simp only[pw] at a;cases f:(Nat.beq d c&&(u0 G.ps as&&(g0 0 G.ps).isNone)) with
  |true=>grind
  |false=>
   rw[f] at a;obtain⟨h,g⟩:=Bp a;grind
theorem Bq:∀{d:List (Nat×g1)} {c:Nat} {as:List ah} {b:g1},pw d c as=some b->g0 0 b.ps=none
 |[],_,_,_,a=>by cases a
 |(k,G)::d,c,as,b,a=>by
  simp only[pw] at a;cases e:(Nat.beq k c&&(u0 G.ps as&&(g0 0 G.ps).isNone)) with
  |true=>
   simp_all
  |false=>
   rw[e] at a;exact Bq a
def qK (ic:eQ) (a:kp) (b:a.den):aA:=⟨ic.kg++k5 a.g b,qJ a.h (qL a.g b)⟩
def eZ (b:Nat) (c:cP) (a:Nat):Bool:=Nat.blt a b&&!(bU a c)
def aj (ic:eQ) {A:Type} (a:Operand->ah) (g:List (Nat×ay)) (r:Oper) (c:ba->Option A):Option A:=
 match r.dst with
 |none=>match r.op with
  |.store d e v=>ot ic.tt g d (a e) (a v) c
  |.mapUpdate d e o v=>ld ic.tt g d (a e) (a o) (a v) c
  |.insert d e o v=>ld ic.tt g d (a e) (a o) (a v) c
  |.entryStore d e F v=>nS ic.tt g d (a e) (a F) (a v) c
  |.call {callee:=.builtin .delete,args:=xs,argTypes:=s}=>match xs.toList,s.toList with
   |[e,o],[d,_]=>n7 ic.tt g d (a e) (a o) c
   |_,_=>none
  |_=>none
 |some b=>
  bif eZ ic.n ic.pin b then
  match r.op with
  |.pick y e i=>match a y with
   |.val .bool j=>(match a e,a i with
    |.val k u,.val H v=>match fD (τ:=H) k v with
     |some v=>c ⟨some (b,.val k (bif j then u else v)),[],[],[]⟩
     |none=>none
    |u,v=>match j with
     |true=>c ⟨some (b,u),[],[],[]⟩
     |false=>c ⟨some (b,v),[],[],[]⟩)
   |_=>none
  |.call {callee:=.value z,args:=xs,argTypes:=_}=>match a z with
   |.bY l m=>
    match pw ic.zo l (xs.toList.map a++m) with
    |none=>none
    |some h=>bif Nat.beq h.f l then
     hC g (ou (xs.toList.map a++m) h.ps) h.ps (xs.toList.map a++m) λq=>(h.tb q).bind λj=>bif kw b ⟨[],g⟩ (xs.toList.map a++m) (ef h.ps q j) (gA h.rs (fM h.ps j)) then
      c ⟨some (b,ri b (gA h.rs (fM h.ps j))),dZ (xs.toList.map a++m) (ef h.ps q j),sE (jC (xs.toList.map a++m) (ef h.ps q j)),hp (xs.toList.map a++m) (ef h.ps q j)++gB b (gj (gA h.rs (fM h.ps j))) 0 (gA h.rs (fM h.ps j))⟩ else none
     else none
   |_=>none
  |.call {callee:=.builtin .append,args:=xs,argTypes:=s}=>match xs.toList,s.toList with
   |[e,i],[d,x]=>bif Nat.beq d x then k2 ic.tt ic.an g b d (a e) (a i) c else none
   |_,_=>none
  |.call {callee:=.builtin .copy,args:=xs,argTypes:=s}=>match xs.toList,s.toList with
   |[e,i],[d,_]=>nL ic.tt g b d (a e) (a i) c
   |_,_=>none
  |.assign e=>match a e with
   |.val k i=>c ⟨some (b,.val k i),[],[],[]⟩
   |.bY l m=>c ⟨some (b,.bY l m),[],[],[]⟩
   |.addr id E=>c ⟨some (b,.addr id E),[],[],[]⟩
   |.bu v=>match ai ic.an b with
    |none=>c ⟨some (b,.bu v),[],[],[]⟩
    |some k=>match k.pure&&mQ k v with
     |true=>(gw k v.cells.toList).bind λi=>c ⟨some (b,.val k i),[],[],[]⟩
     |false=>(mM ic.an g b (.bu v)).bind c
   |v=>(mM ic.an g b v).bind c
  |.build d w=>o0 ic.tt ic.an g a b d w.toList c
  |.mapEntry d e o=>n8 ic.tt g b d (a e) (a o) c
  |.box d e=>qn ic.tt ic.an g b d (a e) c
  |.buildSlice d C w=>o2 ic.tt ic.an g a b d C w.toList c
  |_=>match hP ic.tt ic.an g a b r.op with
   |.da t=>c ⟨some (b,t),[],[],[]⟩
   |.opt _ i l=>i.bind λp=>c ⟨some (b,l p),[],[],[]⟩
   |.new _ i G B=>bif Nat.beq B b then i.bind λp=>c ⟨some (b,.ref b []),[],[],[(b,G p)]⟩ else none
   |.no=>match eD ic.tt ic.an g a b r.op with
    |.da t D=>c ⟨some (b,t),[],[],D⟩
    |.part _ I l=>(pick I).bind λp=>c ⟨some (b,(l p).1),[],[],(l p).2⟩
    |.bad=>none
  else none
def kx (b:List (Nat×ay)) (a:cP):Bool:=a.all λid=>match ai b id with|some c=>AY c.1|none=>false
def hA (ic:eQ) {A:Type} (e:Operand->ah) (b:List (Nat×ay)) (c:Oper) (f:ba->Option A):Option A:=
 match jx ic.nY (qT c) e (ox c.op) with
 |[]=>aj ic e b c f
 |F=>bif kx b F then aj ic (λh=>gh b F (e h)) (del F b) c λa=>bif a.keep.all (λg=>!bU g.1 F) then f ⟨a.d,F++a.S,a.keep,a.put⟩ else none else none
def k8:eV->Bool
 |.m _=>true
 |_=>false
def CH (ic:eQ) (a:Operand->ah) (e:Oper):Option (Nat×List aM):=match e.op with
 |.call {callee:=.value z,args:=xs,argTypes:=_}=>match a z with
  |.bY d b=>match pw ic.zo d (xs.toList.map a++b) with
   |some c=>pL (xs.toList.map a++b) (c.ps.map k8)
   |none=>none
  |_=>none
 |_=>none
def AA (ic:eQ) {A:Type} (id:Nat) (k:aM) (j:List aM) (c:Operand->ah) (l:List (Nat×ay)) (p:Oper) (r:ba->Option A):Option A:=
 match p.dst with
 |none=>none
 |some g=>
  bif eZ ic.n ic.pin g then
  match p.op with
  |.call {callee:=.value m,args:=xs,argTypes:=_}=>match c m with
   |.bY o d=>
    match pw ic.zo o (xs.toList.map c++d) with
    |none=>none
    |some a=>
     bif Nat.beq a.f o then
     match ai l id with
     |none=>none
     |some h=>match dp h.1 (k::j) with
      |none=>none
      |some i=>match fo h.1 h.2 (k::j) i with
       |none=>none
       |some q=>
        match dC ((id,⟨i,q⟩)::del [id] l) (ou (jF id (xs.toList.map c++d) (a.ps.map k8)) a.ps) a.ps (jF id (xs.toList.map c++d) (a.ps.map k8)) with
        |none=>none
        |some e=>(a.tb e).bind λb=>bif kw g ⟨[],(id,⟨i,q⟩)::del [id] l⟩ (jF id (xs.toList.map c++d) (a.ps.map k8)) (ef a.ps e b) (gA a.rs (fM a.ps b))&&(bU id (dZ (jF id (xs.toList.map c++d) (a.ps.map k8)) (ef a.ps e b))&&bU id (jC (jF id (xs.toList.map c++d) (a.ps.map k8)) (ef a.ps e b))) then
         match ai (hp (jF id (xs.toList.map c++d) (a.ps.map k8)) (ef a.ps e b)++gB g (gj (gA a.rs (fM a.ps b))) 0 (gA a.rs (fM a.ps b))) id with
         |none=>none
         |some s=>match fD i s.2 with
          |none=>none
          |some t=>(jE h.1 h.2 (k::j) i t).bind λm=>
           r ⟨some (g,ri g (gA a.rs (fM a.ps b))),dZ (jF id (xs.toList.map c++d) (a.ps.map k8)) (ef a.ps e b),(id,k::j)::sE (jC (jF id (xs.toList.map c++d) (a.ps.map k8)) (ef a.ps e b)),(id,⟨h.1,m⟩)::(hp (jF id (xs.toList.map c++d) (a.ps.map k8)) (ef a.ps e b)++gB g (gj (gA a.rs (fM a.ps b))) 0 (gA a.rs (fM a.ps b)))⟩
         else none
     else none
   |_=>none
  |_=>none
  else none
def BK (ic:eQ) (b:Operand->ah) (c:Oper):Option cz:=match c.dst,c.op with
 |some a,.binOp .eql d e g _=>match ey ic.tt d,b e,b g with
  |some _,.val (.aU _ h) f,.bu (.slice none 0 0)=>bif eZ ic.n ic.pin a then some (a,List.length (α:=h.den) f) else none
  |_,_,_=>none
 |_,_=>none
def Fs (tt:List (TypeId×ae)) (a:TypeId):Bool:=match ai tt a with|some (.ptr _ _)=>true|_=>false
def BJ (b:List (Nat×ay)):ah->Option Bool
 |.val (.ptr _ a) d=>some (Option.isNone (α:=a.den) d)
 |.ref id c=>match ai b id with
  |some a=>match dp a.1 c with
   |some (.optr _)=>some false
   |_=>none
  |none=>none
 |_=>none
def Cg (ic:eQ) (c:Operand->ah) (f:List (Nat×ay)) (d:Oper):Option (Nat×Bool):=match d.dst,d.op with
 |some a,.binOp g e h i _=>match Fs ic.tt e,BJ f (c h),c i with
  |true,some b,.bu (.pointer none)=>bif eZ ic.n ic.pin a then(match g with
   |.eql=>some (a,b)
   |.neq=>some (a,!b)
   |_=>none) else none
  |_,_,_=>none
 |_,_=>none
def CI (ic:eQ) (f:Operand->ah) (d:Oper):Option (Nat×qh×Int):=match d.dst,d.op with
 |some c,.indexAddr e (.global h) g=>match ic.nZ.find? (λa=>Nat.beq a.b h&&Nat.beq a.T e),f g with
  |some a,.val (.int _) i=>bif eZ ic.n ic.pin c then some (c,a,i) else none
  |_,_=>none
 |_,_=>none
def i1 (ic:eQ) {A:Type} (a:aA) (d:Oper) (b:aA->Option A):Option A:=
 match CI ic (aE a.g) d with
 |some (c,i,f)=>(aQ i.xs f).bind λn=>b ⟨(c,.val (.ptr .bm (.int i.k)) (some n))::a.g,a.h⟩
 |none=>match Cg ic (aE a.g) a.h d with
 |some (c,j)=>b ⟨(c,.val .bool j)::a.g,a.h⟩
 |none=>match BK ic (aE a.g) d with
 |some (c,f)=>lf f (b ⟨(c,.val .bool true)::a.g,a.h⟩) (b ⟨(c,.val .bool false)::a.g,a.h⟩)
 |none=>match CH ic (aE a.g) d with
  |some (id,m::l)=>AA ic id m l (aE a.g) a.h d λe=>b (e.app a)
  |_=>hA ic (aE a.g) a.h d λe=>b (e.app a)
def ih (ic:eQ) {A:Type} (c:Array Oper):cP->aA->(aA->Option A)->Option A
 |[],a,b=>b a
 |i::e,a,b=>match c[i]? with
  |none=>none
  |some f=>match f.guard with
   |none=>i1 ic a f λk=>ih ic c e k b
   |some (
    l,pS)=>match(c[l]?).bind (·.dst),f.dst with
    |some j,some d=>match gt a.g j with
     |.val .bool m=>bif eZ ic.n ic.pin d then
      (match m==pS with
      |true=>i1 ic ⟨(j,.val .bool pS)::a.g,a.h⟩ f λk=>ih ic c e k b
      |false=>ih ic c e ⟨(d,.bu undef)::(j,.val .bool (!pS))::a.g,a.h⟩ b) else none
     |.bu (.tuple _)=>bif eZ ic.n ic.pin d then ih ic c e ⟨(d,.bu undef)::a.g,a.h⟩ b else none
     |_=>none
    |_,_=>none
section
variable {E:dA} {C:c8} {ic:eQ} {A:Type}
def eQ.ac (E:dA) (C:c8) (ic:eQ):Prop:=ic.tt=E.tt/\ic.n=C.n/\ic.pin=C.pin/\((∀b∈ic.zo,aJ E b.2)/\qf C ic.Sr/\(∀a∈ic.aR,C4 E.P a)/\iw E C.I0 C.w0/\ic.nZ=E.glob)/\mz C ic.kg
theorem eZ.ok (b:ic.ac E C) {d:Nat} (a:eZ ic.n ic.pin d=true):C.ok d:=by obtain⟨_,c,e,_,_⟩:=b;rw[c,e] at a;simp only[eZ,a2] at a;exact⟨ek a.1,λf=>by grind [eN]⟩
def ev.same {d:cH} (k:∀b,gt X.g b=gt i.g b) (c:X.h=i.h) (j:ev C i d v):ev C X d v:=by obtain⟨e,l,f,a⟩:=j;exact⟨e,l,f,{a with tree:=by rw[c];exact a.tree,dis:=by rw[c];exact a.dis,tmp:=λb=>by rw[c,k];exact a.tmp b}⟩
def fR.same {f:Array Oper} {e:cP} {a b:aA} {c:aA->Prop} (l:∀d,gt b.g d=gt a.g d) (m:b.h=a.h) (j:fR E C f e b c):fR E C f e a c:=
 λi n k=>j i n (k.same l m)
def ba.DE:(ba.mk (some (b,d)) y f e).app i=⟨(b,d)::kill y f i.g,e++del y i.h⟩:=by show aA.mk ((b,d)::kD y f i.g) (e++nR y i.h)=_;rw[pp,so]
theorem Ev (L:ic.ac E C) {l:Oper} {st:aA} {o:ba->Option A} {s:A} (a:aj ic (aE st.g) st.h l o=some s):c5 E C l st (λv=>∃c,o c=some s/\v=c.app st):=by
 obtain⟨B,d8,d9,dl,_⟩:=id L;unfold aj at a;split at a
 ·rename_i i;split at a
  ·grind [SI,SH]
  ·grind [Gh]
  ·rename_i p b W Y e;rw[B] at a;exact Gh (.inr e) i a
  ·grind [LQ]
  ·rename_i x H e;split at a
   case h_2=>cases a
   rename_i b W p am aj S;rw[B] at a;obtain rfl:x=#[b,W]:=(by grind);obtain rfl:H=#[p,am]:=(by grind);grind [Of]
  grind
 rename_i z i;cases U:eZ ic.n ic.pin z with
 |false=>grind
 |true=>
 rw[U] at a;have j:=eZ.ok L U;simp only[cond_true] at a;split at a
 ·rename_i d5 b m e;split at a
  case h_2=>cases a
  rename_i q K;have d6:∀y,(q=true->y=aE st.g b)->(q=false->y=aE st.g m)->o ⟨some (z,y),[],[],[]⟩=some s->c5 E C l st (λv=>∃c,o c=some s/\v=c.app st):=by
   clear a;intro y a4 bl u;refine c5.eval (an:=ic.an) i j ?_;rw[e];simp only[eD,y0,K];refine⟨q,rfl,_,u,?_⟩;cases q
   ·rw[bl rfl];rfl
   rw[a4 rfl];rfl
  split at a
  ·rename_i d4 fb fp Y el V;split at a
   case h_2=>cases a
   rename_i d3 ds;cases hO ds;grind
  grind
 ·rename_i fn x _ e;split at a
  case h_2=>cases a
  rename_i J X d1;split at a
  ·cases a
  rename_i I bs;cases r:Nat.beq I.f J with
  |false=>grind
  |true=>
  rw[r] at a;obtain rfl:=dU r;simp only[cond_true,kB] at a;obtain⟨d,d7,a⟩:=bP.1 a;obtain⟨q,cv,a⟩:=bP.1 a;cases K:kw z ⟨[],st.h⟩ (x.toList.map (aE st.g)++X) (ef I.ps d q) (gA I.rs (fM I.ps q)) with
  |false=>grind
  |true=>
  rw[K] at a;obtain⟨em,cs⟩:=Bp bs;obtain⟨ci,co⟩:=dl.1 _ cs;refine c5.call e d1 i j ci (co d q cv) (by grind [Bq,vI]) L.2.2.2.2.1 L.2.2.2.1.2.2.2.1 ?_ K ⟨_,a,?_⟩
  ·grind [mV,CK]
  rw[ba.DE];rfl
 ·rename_i x H e;split at a
  case h_2=>cases a
  rename_i b m p N aj S;cases r:Nat.beq p N with
  |false=>grind
  |true=>
  rw[r] at a;obtain rfl:=dU r;have av:x=#[b,m]:=(by grind);have a0:H=#[p,p]:=(by grind);grind [Kc]
 ·rename_i x H e;split at a
  case h_2=>cases a
  rename_i b m p N aj S;have av:x=#[b,m]:=(by grind);have a0:H=#[p,N]:=(by grind);grind [c5.copy]
 ·rename_i b e;have O:Bc (aE st.g b)=true->o ⟨some (z,aE st.g b),[],[],[]⟩=some s->c5 E C l st (λv=>∃c,o c=some s/\v=c.app st):=λV u=>by
   refine c5.eval (an:=ic.an) i j ?_;rw[e];simp only[eD,V,cond_true];exact⟨_,u,rfl⟩
  have as:(mM ic.an st.h z (aE st.g b)).bind o=some s->c5 E C l st (λv=>∃c,o c=some s/\v=c.app st):=λu=>(by obtain⟨c,ce,u⟩:=bP.1 u;exact c5.Ki e i j (Kj ce ⟨c,u,rfl⟩));split at a
  ·rename_i d4 m t;exact O (by rw[t];rfl) (by grind)
  ·rename_i J X t;exact O (by rw[t];rfl) (by grind)
  ·rename_i id ex t;rintro d w ⟨ad,d2,a3,D⟩ next ap Q
   have M:=D.aE b;have R:(execOp d.eval l).run E.P w=.ok (.value (d.eval b)) w:=(by simp[execOp,e]);unfold Oper.wp;rw[R];show next (d.put l.dst (d.eval b)) w
   rw[i];refine Q _ _ _ ⟨_,a,rfl⟩ rfl ⟨_,_,_,D.put j ?_⟩;grind
  ·rename_i Y t;split at a
   ·exact O (by rw[t];rfl) (by grind)
   split at a
   ·rename_i T;simp only[a2] at T;obtain⟨m,d0,a⟩:=bP.1 a;rintro d w ⟨ad,d2,a3,D⟩ next ap Q
    have M:=D.aE b;have R:(execOp d.eval l).run E.P w=.ok (.value (d.eval b)) w:=(by simp[execOp,e]);unfold Oper.wp;rw[R];show next (d.put l.dst (d.eval b)) w
    rw[i];refine Q _ _ _ ⟨_,a,rfl⟩ rfl ⟨_,_,_,D.put j ?_⟩;rw[t] at M;generalize d.eval b=d3 at M;cases M;rw[<-mQ.ok T.2];exact .val (mP d0)
   grind
  grind
 ·grind [Kw]
 ·grind [Oo]
 ·grind [Kz]
 ·grind [KD]
 split at a
 ·rename_i y k;refine c5.eval (an:=ic.an) i j ?_;rw[<-B];exact AF (by rw[k];exact⟨_,a,rfl⟩)
 ·rename_i Z m J k;refine c5.eval (an:=ic.an) i j ?_;rw[<-B];obtain⟨G,F,a⟩:=bP.1 a;exact AF (by rw[k];exact⟨G,F,_,a,rfl⟩)
 ·rename_i Z m fa c k;cases r:Nat.beq c z with
  |false=>grind
  |true=>
  rw[r] at a;obtain rfl:=dU r;obtain⟨G,F,a⟩:=bP.1 a;refine c5.eval (an:=ic.an) i j ?_;rw[<-B];exact AF (by rw[k];exact⟨G,F,_,a,rfl⟩)
 refine c5.eval (an:=ic.an) i j ?_;rw[B] at a;split at a
 ·rename_i y eq k;rw[k];exact⟨_,a,rfl⟩
 ·rename_i Z fs J k;rw[k];obtain⟨G,F,a⟩:=bP.1 a;exact⟨G,Q7 F,_,a,rfl⟩
 grind
def c5.mono {P:aA->Prop} (e:c5 E C h i P) (j:∀a,P a->u a):c5 E C h i u:=
 λc l f next b g=>e c l f next b (λa d m k=>g a d m (j a k))
theorem RO (b:iK f d=true):∃id,d.ids=[id]/\∃a∈f,a.1=id:=by
 have e:∀(id:Nat) (g:Nat×List aM->Bool),(f.any λa=>Nat.beq a.1 id&&g a)=true->∃a∈f,a.1=id:=(by intro id g k;obtain⟨a,h,i⟩:=mA.1 k;simp only[a2] at i;grind [Nat.eq_of_beq_eq_true]);cases d with
 |ref id c=>
  cases c with
  |nil=>
   obtain⟨a,h,j⟩:=mA.1 (show(f.any λa=>Nat.beq a.1 id)=true from b);exact⟨id,rfl,a,h,dU j⟩
  |cons n c=>exact⟨id,rfl,e id _ b⟩
 |addr id c=>exact⟨id,rfl,e id _ b⟩
 |view id c m l=>exact⟨id,rfl,e id _ b⟩
 |_=>cases b
theorem zu:d.dB (g++y)=(d.dB g||d.dB y):=by simp only[ah.dB];rw[nm];simp only[mA,gE];grind [eN,List.mem_append_left,List.mem_append_right]
theorem Ea:(ah.bY b L).dB g=L.any λa=>a.dB g:=by
 show(ah.k7 L).any _=_
 induction L with
 |nil=>rfl
 |cons a L c=>grind [ah.k7,ah.dB]
theorem HT (b:d.dB y=false):hn (y++g) f d=hn g f d:=by
 cases d with
 |bY m p=>
  rw[Ea,rG] at b;rw[nm];simp only[hn,et];constructor<;>intro i e h<;>have:=i e h<;>rw[zu,Bool.eq_false_iff.2 (b e h)] at*<;>simpa using this
 |app id q s r c=>
  have j:=CR b;have o:∀a∈c,bU a (y++g)=bU a g:=λa k=>(by have n:a∉y:=j a (eH _ k);rw[nm,eN,eN,eR];grind);have l:(c.all λa=>!(bU a (y++g)))=c.all λa=>!(bU a g):=(by grind);grind [hn]
 |_=>rfl
theorem Nu {F S:cP} {keep:List (Nat×List aM)} {a:ah}:dj (F++S) keep a=.dead\/(a.dB F=false/\dj (F++S) keep a=dj S keep a)\/(hn (F++S) keep a=true/\dj (F++S) keep a=a):=by grind [HT,zu,hn,dj]
theorem kx.ok (b:kx e g=true):∀id∈g,∃a,ai e id=some a/\AY a.1=true:=by intro id c;have:=et.1 b id c;grind
theorem Ex (a3:ic.ac E C) {K:Oper} {N:ba->Option A} {W:A} (e:hA ic (aE i.g) i.h K N=some W):c5 E C K i (λX=>∃b,N b=some W/\X=b.app i):=by
 unfold hA at e;split at e
 ·grind [Ev]
 generalize jx ic.nY (qT K) (aE i.g) (ox K.op)=c at e;cases R:kx i.h c with
 |false=>grind
 |true=>
 rw[R] at e;simp only[cond_true] at e;rw[<-MJ c i] at e;have o:=Ev (st:=ph c i) a3 e;intro j co M next Y bl
 obtain⟨cv,d5,dl,M⟩:=M;refine o j co (M.freeze (kx.ok R)) next Y (λd6 Z cs ce av am=>?_)
 obtain⟨b,T,rfl⟩:=ce;cases U:b.keep.all (λk=>!bU k.1 c) with
 |false=>grind
 |true=>
 rw[U] at T;have U:∀k∈b.keep,k.1∉c:=λk q a4=>(by grind [eN,List.all_eq_true]);refine bl _ Z cs ⟨_,T,rfl⟩ av (am.FI ?_ ?_)
 ·intro x;have t:∀j:ah,dj (c++b.S) b.keep j=.dead\/dj (c++b.S) b.keep j=dj b.S b.keep (eK i.h c j):=by
   intro j;rcases Nu (F:=c) (S:=b.S) (keep:=b.keep) (a:=j) with e|⟨o,w⟩|⟨o,w⟩
   ·grind
   ·right;rw[w];rcases j1 i.h c j with⟨id,p,rfl,ci,_⟩|⟨_,n⟩|⟨n,_⟩
    ·grind [eN,ah.dB,ah.ids]
    ·grind
    grind
   have bs:∀(id:Nat),(∃l∈b.keep,l.1=id)->bU id c=false:=λid ⟨l,I,b⟩=>(by grind);have G:hn (c++b.S) b.keep j=hn b.S b.keep j->∀(id:Nat),j.ids=[id]->(∃l∈b.keep,l.1=id)->dj (c++b.S) b.keep j=.dead\/dj (c++b.S) b.keep j=dj b.S b.keep (eK i.h c j):=by
    intro d0 id d2 I;have V:j.dB c=false:=(by grind [ah.dB]);right;rcases j1 i.h c j with⟨k,p,rfl,ci,_⟩|⟨_,n⟩|⟨n,_⟩
    ·grind [eN,ah.dB,ah.ids]
    ·grind
    grind [dj,hn]
   have H:∀(id:Nat) (O:Nat×List aM->Bool),(b.keep.any λl=>Nat.beq l.1 id&&O l)=true->∃l∈b.keep,l.1=id:=(by intro id O a0;obtain⟨l,I,w⟩:=mA.1 a0;simp only[a2] at w;grind [Nat.eq_of_beq_eq_true]);cases j with
   |ref id f=>
    cases f with
    |nil=>
     obtain⟨l,I,L⟩:=mA.1 (show(b.keep.any λl=>Nat.beq l.1 id)=true from o);exact G rfl id rfl ⟨l,I,dU L⟩
    |cons X f=>exact G rfl id rfl (H id _ o)
   |addr id f=>exact G rfl id rfl (H id _ o)
   |view id f y q=>exact G rfl id rfl (H id _ o)
   |bY s m=>
    have an:=et.1 o;have V:(ah.bY s m).dB c=false:=(by rw[Ea,rG];grind [RO,zu,id,ah.dB,aj]);right;rcases j1 i.h c (.bY s m) with⟨k,p,ao,_⟩|⟨_,n⟩|⟨n,_⟩
    ·cases ao
    ·grind
    rw[n,w];unfold dj;have ds:hn b.S b.keep (.bY s m)=true:=et.2 λad ap=>(by have L:=an ad ap;rw[zu,Bool.not_or,gE,a2] at L;grind);grind
   |app id f u v r=>
    have Q:((r.all λk=>!(bU k (c++b.S)))&&b.keep.any λl=>Nat.beq l.1 id&&h5 l.2 f)=true:=o;rw[a2] at Q;have d1:=bs id (H id _ Q.2);have V:(ah.app id f u v r).dB c=false:=by
     unfold ah.dB;rw[rG];intro k q a4;rcases dw.1 (show k∈id::r from q) with rfl|q
     ·grind
     grind [List.all_eq_true,eN,List.mem_append_left]
    right;rcases j1 i.h c (.app id f u v r) with⟨k,p,ao,_⟩|⟨_,n⟩|⟨n,_⟩
    ·cases ao
    ·grind
    grind [HT,dj]
   |_=>cases o
  have d3:∀j:ah,tm (dI (c++b.S) b.keep j) (dI b.S b.keep (gh i.h c j)):=by
   intro j;cases j with
   |dh m=>
    refine .inr (.inr ⟨_,_,rfl,rfl,ab,λk l d8 o w=>?_⟩);grind
   |ref id f=>
    have n:=t (.ref id f);have aj:dI b.S b.keep (gh i.h c (.ref id f))=dj b.S b.keep (eK i.h c (.ref id f)):=by show dI b.S b.keep (eK i.h c (.ref id f))=_;rcases j1 i.h c (.ref id f) with⟨k,p,_,_,_,e⟩|⟨e,_⟩|⟨e,_⟩<;>rw[e]<;>first|rfl|grind [MK]
    rw[aj];exact n.imp (λe=>e) .inl
   |dead=>exact(t .dead).imp (λe=>e) .inl
   |val u l=>exact .inr (.inl (by
    simp[dj,eK,gh,dI,ah.dB,ah.ids]))
   |bu d7=>exact .inr (.inl (by
    simp[dj,eK,gh,dI,ah.dB,ah.ids]))
   |addr id f=>
    have aj:dI b.S b.keep (gh i.h c (.addr id f))=dj b.S b.keep (eK i.h c (.addr id f)):=by show dI b.S b.keep (eK i.h c (.addr id f))=_;rcases j1 i.h c (.addr id f) with⟨k,p,_,_,_,e⟩|⟨e,_⟩|⟨e,_⟩<;>rw[e]<;>first|rfl|grind
    rw[aj];exact(t _).imp (λe=>e) .inl
   |view id f y q=>
    have aj:dI b.S b.keep (gh i.h c (.view id f y q))=dj b.S b.keep (eK i.h c (.view id f y q)):=by show dI b.S b.keep (eK i.h c (.view id f y q))=_;rcases j1 i.h c (.view id f y q) with⟨k,p,_,_,_,e⟩|⟨e,_⟩|⟨e,_⟩<;>rw[e]<;>first|rfl|grind
    rw[aj];exact(t _).imp (λe=>e) .inl
   |h8 id f J=>
    have aj:dI b.S b.keep (gh i.h c (.h8 id f J))=dj b.S b.keep (eK i.h c (.h8 id f J)):=by show dI b.S b.keep (eK i.h c (.h8 id f J))=_;rcases j1 i.h c (.h8 id f J) with⟨k,p,_,_,_,e⟩|⟨e,_⟩|⟨e,_⟩<;>rw[e]<;>first|rfl|grind
    rw[aj];exact(t _).imp (λe=>e) .inl
   |app id f u v r=>
    have aj:dI b.S b.keep (gh i.h c (.app id f u v r))=dj b.S b.keep (eK i.h c (.app id f u v r)):=by show dI b.S b.keep (eK i.h c (.app id f u v r))=_;rcases j1 i.h c (.app id f u v r) with⟨k,p,_,_,_,e⟩|⟨e,_⟩|⟨e,_⟩<;>rw[e]<;>first|rfl|grind
    rw[aj];exact(t _).imp (λe=>e) .inl
   |agg m=>
    have aj:dI b.S b.keep (gh i.h c (.agg m))=dj b.S b.keep (eK i.h c (.agg m)):=by show dI b.S b.keep (eK i.h c (.agg m))=_;rcases j1 i.h c (.agg m) with⟨k,p,_,_,_,e⟩|⟨e,_⟩|⟨e,_⟩<;>rw[e]<;>first|rfl|grind
    rw[aj];exact(t _).imp (λe=>e) .inl
   |bY s m=>
    have aj:dI b.S b.keep (gh i.h c (.bY s m))=dj b.S b.keep (eK i.h c (.bY s m)):=by show dI b.S b.keep (eK i.h c (.bY s m))=_;rcases j1 i.h c (.bY s m) with⟨k,p,_,_,_,e⟩|⟨e,_⟩|⟨e,_⟩<;>rw[e]<;>first|rfl|grind
    rw[aj];exact(t _).imp (λe=>e) .inl
  show tm (gt (ba.app ⟨b.d,c++b.S,b.keep,b.put⟩ i).g x) (gt (b.app (ph c i)).g x);obtain⟨D,z,B,d4⟩:=b;cases D with
  |none=>
   show tm (gt (kD (c++z) B i.g) x) (gt (kD z B (ph c i).g) x);grind [pp,n1,yn]
  |some n=>
   obtain⟨D,P⟩:=n;show tm (gt ((D,P)::kD (c++z) B i.g) x) (gt ((D,P)::kD z B (ph c i).g) x);rw[gy,gy];split
   ·exact .inr (.inl rfl)
   grind [pp,n1,yn]
 intro id;show ai (b.put++nR (c++b.S) i.h) id=ai (b.put++nR b.S (del c i.h)) id;grind [so,hQ,j3]
theorem Lz (l:ic.ac E C) {o:Oper} {id:Nat} (a0:CH ic (aE i.g) o=some (id,T::j)) {p:ba->Option A} {x:A} (a:AA ic id T j (aE i.g) i.h o p=some x):c5 E C o i (λT=>∃q,p q=some x/\T=q.app i):=by
 have Q:=λc=>eZ.ok l (d:=c);have L:=l.2.2.2.2.1;have M:=l.2.2.2.1.2.2.2.1;obtain⟨a3,_,_,V,_⟩:=l;unfold AA at a;split at a
 ·cases a
 rename_i c H;cases v:eZ ic.n ic.pin c with
 |false=>grind
 |true=>
 rw[v] at a;have I:=Q c v;simp only[cond_true] at a;split at a
 case h_2=>cases a
 rename_i ap y ci O;split at a
 case h_2=>cases a
 rename_i D w Y;split at a
 ·cases a
 rename_i b F;cases t:Nat.beq b.f D with
 |false=>grind
 |true=>
 rw[t] at a;obtain rfl:=dU t;simp only[cond_true] at a;split at a
 ·cases a
 rename_i bs S;split at a
 ·cases a
 rename_i an a4;split at a
 ·cases a
 rename_i ad W;split at a
 ·cases a
 rename_i k av;obtain⟨e,P,a⟩:=bP.1 a;have R:pL (y.toList.map (aE i.g)++w) (b.ps.map k8)=some (id,T::j):=(by grind [CH]);generalize G:jF id (y.toList.map (aE i.g)++w) (b.ps.map k8)=m at*;cases u:kw c ⟨[],(id,⟨an,ad⟩)::del [id] i.h⟩ m (ef b.ps k e) (gA b.rs (fM b.ps e)) with
 |false=>grind
 |true=>
 rw[u] at a;cases r:bU id (dZ m (ef b.ps k e)) with
 |false=>grind
 |true=>
 rw[r] at a;cases s:bU id (jC m (ef b.ps k e)) with
 |false=>grind
 |true=>
 rw[s] at a;simp only[Bool.and_self,cond_true] at a;split at a
 ·cases a
 rename_i ce U;split at a
 ·cases a
 rename_i B X;obtain⟨am,Z,a⟩:=bP.1 a;obtain⟨bl,N⟩:=Bp F;obtain⟨J,K⟩:=V.1 _ N;refine c5.sub O Y H I J (K k e P) (by grind [Bq,vI]) L M S (gi W) R G.symm ?_ u (eN.1 r) (eN.1 s) (y':=B) (z:=am) ?_ (kb Z) ⟨_,a,?_⟩
 ·grind [mV,CK]
 ·rw[U];exact congrArg some (hO X)
 rw[ba.DE]
def R5 (b:World) (e:Nat) (a:Option Addr) (g d:Nat) (f:s.underlying c=some (.slice q)):(Op.equalIn (e+1) c (.slice a g d) (.slice none 0 0)).run s b=.ok a.isNone b:=by cases a<;>simp[Op.equalIn,run_underlying f]
theorem R3 (b:World) (a:Option Addr) (e d:Nat) (f:s.underlying c=some (.slice q)):(binOp .eql c (.slice a e d) (.slice none 0 0)).run s b=.ok (.bool a.isNone) b:=by simp_all [R5,Op.equal,Op.maxDepth,binOp]
theorem OO (s:ic.ac E C) {x:Oper} (a:BK ic (aE i.g) x=some (b,l)):c5 E C x i (λR=>∃c:Bool,R=⟨(b,.val .bool c)::i.g,i.h⟩/\(c=true->l=0)):=by
 unfold BK at a;split at a
 case h_2=>cases a
 rename_i D A j k an H J;split at a
 case h_2=>cases a
 rename_i am Z z y r F G;cases t:eZ ic.n ic.pin D with
 |false=>grind
 |true=>
 rw[t] at a;simp only[cond_true,bw,e6] at a;obtain⟨rfl,rfl⟩:=a;rw[s.1] at r;obtain⟨_,T,_,K,_⟩:=ey.ok r;rintro e f ⟨S,ad,V,m⟩ next U Y
 have o:=m.aE j;have p:=m.aE k;rw[F] at o;rw[G] at p;obtain⟨d,u⟩:∃d,d=e.eval j:=⟨_,rfl⟩;obtain⟨dz,w⟩:∃d,d=e.eval k:=⟨_,rfl⟩;rw[<-u] at o;rw[<-w] at p;cases o with|val O=>cases p with|bu _=>
 obtain⟨_,c,q,rfl,W,X,_⟩:=O;have L:e.eval j=.slice c (List.length (α:=z.den) y) q:=u.symm;have M:e.eval k=.slice none 0 0:=w.symm;have I:∀f,(eqGuard .eql A j k (.slice c (List.length (α:=z.den) y) q) (.slice none 0 0)).run E.P f=.ok () f:=λf=>(by unfold eqGuard;simp);refine Yields.wp (Q:=λB N=>B=.val .bool c.isNone/\N=[]) m (.pure (v:=.bool _) (by simp only[execOp,J,L,M,Sem.run_bind,I,Result.andThen_ok,R3 _ _ _ _ K];rfl) (.bool _) ⟨rfl,rfl⟩) H (eZ.ok s t) ?_;grind
def SU {e:IntKind} (g:E.P.underlying q=some (.array W c)) (f:dn E.P (.int e) c) {a:Act} (j:h.op=.indexAddr q (.global l) m) {o:IntKind} (i:a.eval m=.int o b) (p:b<W):(execOp a.eval h).run E.P v=.ok (.value (.pointer (some ⟨l,0+b*1,none⟩))) v:=by have d:=f.sizeOf v;have n:a.eval (.global l)=.pointer (some ⟨l,0,none⟩):=rfl;have:(0:Int)<=(b:Int)/\(b:Int)<(W:Int):=⟨U,U⟩;have k:(ae.int e).size=1:=rfl;rw[k] at d;simp[execOp,j,n,i,Instr.indexAt,Instr.sureAddr,asIntOf,run_underlying g,this,d,Addr.add_lit];omega
theorem SQ (d:ic.ac E C) {A:Oper} {r:qh} {z e:Int} (a:CI ic (aE i.g) A=some (l,r,z)) (V:aQ r.xs z=some e):c5 E C A i (λZ=>Z=⟨(l,.val (.ptr .bm (.int r.k)) (some e))::i.g,i.h⟩):=by
 unfold CI at a;split at a
 case h_2=>cases a
 rename_i F an bs p R S;split at a
 case h_2=>cases a
 rename_i c y q v M;cases w:eZ ic.n ic.pin F with
 |false=>grind
 |true=>
 rw[w] at a;simp only[cond_true,bw,e6] at a;obtain⟨rfl,rfl,rfl⟩:=a;have j:=List.find?_some v;have o:=List.mem_of_find?_eq_some v;rw[a2] at j;obtain rfl:=dU j.1;obtain rfl:=dU j.2;rw[d.2.2.2.1.2.2.2.2] at o;obtain⟨am,P,O⟩:=E.gok c o;rintro s dl ⟨ad,co,a4,f⟩ next ap bl
 have m:=f.aE p;rw[M] at m;generalize T:s.eval p=cv at m;cases m with|val Y=>
 obtain⟨_,rfl⟩:=Y;obtain⟨aj,K,L⟩:=E9 V;obtain⟨_,av,a3,u,ao,ci,B⟩:=f.glob d.2.2.2.2.1 d.2.2.2.1.2.2.2.1 c o;simp only[fd,Value.slice.injEq,and_true] at u;obtain⟨rfl,_⟩:=u;rcases B with B|⟨a0,ce,t,N,X⟩
 ·grind
 simp only[bw,Addr.mk.injEq,and_true] at t;obtain⟨rfl,rfl⟩:=t;obtain⟨J,G,H,I⟩:=X _ _ L;have U:s.eval p=.int y (q.toNat:Nat):=(by rw[T];show Value.int y q=_;grind);refine Yields.wp (Q:=λD W=>D=.val (.ptr .bm (.int c.k)) (some e)/\W=[]) f (.pure (SU P O S U K) (.val (τ:=.ptr .bm (.int c.k)) (x:=some e) (cs:=[.pointer (some ⟨c.b,0+q.toNat*1,none⟩)]) ⟨rfl,c.b,_,J,rfl,N,G,H,I⟩) ⟨rfl,rfl⟩) R (eZ.ok d w) ?_;grind
def H1 (b:World) (d:Nat) (a:Option Addr) (e:s.underlying c=some (.pointer q)):(Op.equalIn (d+1) c (.pointer a) (.pointer none)).run s b=.ok a.isNone b:=by cases a<;>simp[Op.equalIn,run_underlying e]
theorem R4 (b:World) (a:Option Addr) (d:s.underlying c=some (.pointer q)):(binOp .eql c (.pointer a) (.pointer none)).run s b=.ok (.bool a.isNone) b:=by simp_all [H1,Op.equal,Op.maxDepth,binOp]
theorem R6 (b:World) (a:Option Addr) (d:s.underlying c=some (.pointer q)):(binOp .neq c (.pointer a) (.pointer none)).run s b=.ok (.bool (!a.isNone)) b:=by simp_all [H1,Op.equal,Op.maxDepth,binOp]
theorem OK {e:Act} {s:Nat->cP} (l:bg C i e.tmps v B z s) (a:BJ i.h (aE i.g m)=some I):∃k:Option Addr,e.eval m=.pointer k/\k.isNone=I:=by
 have b:=l.aE m;obtain⟨v1,c⟩:∃j,j=e.eval m:=⟨_,rfl⟩;rw[<-c] at b;unfold BJ at a;split at a
 ·rename_i D x j f;rw[f] at b;cases b with|val d=>
  obtain⟨_,d⟩:=d;cases a;cases j with
  |none=>subst d;exact⟨none,c.symm,rfl⟩
  |some G=>obtain⟨q,u,r,rfl,_⟩:=d;exact⟨some ⟨q,u,none⟩,c.symm,rfl⟩
 ·rename_i id E f;split at a
  case h_2=>cases a
  rename_i x o;split at a
  case h_2=>cases a
  rename_i F t;cases a;rw[f] at b;cases b with|ref p n=>
  rw[o] at p;cases p;have:=n.ty;rw[t] at this;cases this;obtain⟨I,w,r,rfl,y,A⟩:=l6 (l.tree id _ o).1 n;exact⟨some ⟨I,w,none⟩,c.symm,rfl⟩
 grind
theorem Rj (o:ic.ac E C) {D:Oper} (a:Cg ic (aE i.g) i.h D=some (b,I)):c5 E C D i (λO=>O=⟨(b,.val .bool I)::i.g,i.h⟩):=by
 unfold Cg at a;split at a
 case h_2=>cases a
 rename_i J d k R f ad t x;split at a
 case h_2=>cases a
 rename_i H m K L;cases p:eZ ic.n ic.pin J with
 |false=>grind
 |true=>
 rw[p] at a;simp only[cond_true] at a;have M:∃j,E.P.underlying k=some (.pointer j):=by
  rw[o.1] at m;unfold Fs at m;split at m
  ·rename_i X Z N;obtain⟨_,j,_,_,_,_,V,_⟩:=E.ok k _ N;grind
  grind
 obtain⟨j,y⟩:=M;rintro s e ⟨S,Y,U,c⟩ next T W
 have q:=c.aE f;rw[L] at q;obtain⟨dz,A⟩:∃F,F=s.eval f:=⟨_,rfl⟩;rw[<-A] at q;cases q with|bu _=>
 obtain⟨G,z,w⟩:=OK c K;have B:s.eval f=.pointer none:=A.symm;have u:∀d e,(eqGuard d k R f (.pointer G) (.pointer none)).run E.P e=.ok () e:=λd e=>(by unfold eqGuard;cases d<;>simp);split at a
 ·cases a;refine Yields.wp (Q:=λl r=>l=.val .bool I/\r=[]) c (.pure (v:=.bool _) (by simp only[execOp,x,z,B,Sem.run_bind,u,Result.andThen_ok,R4 _ _ y,w];rfl) (.bool _) ⟨rfl,rfl⟩) t (eZ.ok o p) ?_;grind
 ·cases a;refine Yields.wp (Q:=λl r=>l=.val .bool (!H)/\r=[]) c (.pure (v:=.bool _) (by simp only[execOp,x,z,B,Sem.run_bind,u,Result.andThen_ok,R6 _ _ y,w];rfl) (.bool _) ⟨rfl,rfl⟩) t (eZ.ok o p) ?_;grind
 grind
theorem Fk (e:ic.ac E C) {l:Array Oper} {m:aA->Option A} {p:A} (f:l[b]?=some h) (k:hT l i h true) (a:i1 ic i h m=some p) (x:∀c,m c=some p->fR E C l g c u):fR E C l (b::g) i u:=
by
 unfold i1 at a;split at a
 ·rename_i o B t j;obtain⟨D,s,a⟩:=bP.1 a;refine fR.op f k ((SQ e j s).mono (λc d=>?_));grind
 split at a
 ·rename_i o n j;refine fR.op f k ((Rj e j).mono (λc d=>?_));grind
 split at a
 ·rename_i o t j;obtain⟨v,w⟩:=ON a;refine fR.op f k ((OO e j).mono (λc d=>?_));obtain⟨n,rfl,y⟩:=d;cases n with
  |false=>grind
  |true=>grind
 split at a
 ·rename_i id c z d;exact fR.op f k ((Lz e d a).mono (λc ⟨q,r,d⟩=>by grind))
 exact fR.op f k ((Ex e a).mono (λc ⟨q,r,d⟩=>by grind))
theorem u7 {l2:cP} (d:ic.ac E C) {q:Array Oper} {s:aA->Option A} {y:A} {t:aA->Prop} (f:∀k,s k=some y->fR E C q l2 k t):∀{p:cP} {b:aA},ih ic q p b s=some y->fR E C q (p++l2) b t
 |[],b,a=>f _ a
 |i::p,b,a=>by
  simp only[ih] at a;split at a
  ·cases a
  rename_i H j;split at a
  ·rename_i z;exact Fk d j (by grind [hT]) a (λk c=>u7 d f c)
  rename_i G l z;split at a
  case h_2=>cases a
  rename_i v u D x;split at a
  case h_3=>cases a
  case h_2=>
   rename_i I B;cases c:eZ ic.n ic.pin u with
   |false=>grind
   |true=>
   rw[c] at a;have o:=eZ.ok d c;refine fR.skip j x o ?_ (u7 d f a);grind [hT]
  rename_i m B;cases c:eZ ic.n ic.pin u with
  |false=>grind
  |true=>
  rw[c] at a;have o:=eZ.ok d c;simp only[cond_true] at a;split at a
  ·rename_i w;obtain rfl:m=l:=(by grind);have r:∀e,gt (⟨(v,.val .bool m)::b.g,b.h⟩:aA).g e=gt b.g e:=λe=>by
    grind [gy]
   refine fR.same r rfl (Fk d j ?_ a (λk c=>u7 d f c));grind [hT]
  rename_i w;have F:m=!l:=by cases m<;>cases l<;>first|rfl|cases w
  have r:∀e,gt (⟨(v,.val .bool (!l))::b.g,b.h⟩:aA).g e=gt b.g e:=λe=>(by grind [gy]);refine fR.same r rfl (fR.skip j x o ?_ (u7 d f a));grind [hT]
theorem Na (h:ic.ac E C) {c:Array Oper} {b:aA->Option A} {d:A} (f:∀a,b a=some d->u a) (e:ih ic c g i b=some d):fR E C c g i u:=by have:=u7 (l2:=[]) h (λa j=>fR.nil (f a j)) e;grind
end
end
structure hM (s t:aA):Prop where
 g:∀k,gt s.g k=gt t.g k
 h:∀id,ai s.h id=ai t.h id
def hM.refl (a:aA):hM a a:=⟨λ_=>rfl,λ_=>rfl⟩
def hM.symm {c d:aA} (b:hM c d):hM d c:=⟨λa=>(b.g a).symm,λa=>(b.h a).symm⟩
def hM.trans {d e f:aA} (b:hM d e) (c:hM e f):hM d f:=⟨λa=>(b.g a).trans (c.g a),λa=>(b.h a).trans (c.h a)⟩
def ba.qj (a:ba) (e:aA) (b:Nat):gt (a.app e).g b=match a.d with
 |some (c,f)=>if c=b then f else dI a.S a.keep (gt e.g b)
 |none=>dI a.S a.keep (gt e.g b):=by
 obtain⟨c,h,i,k⟩:=a;cases c with
 |none=>
  show gt (kD h i e.g) b=_;rw[pp,n1]
 |some j=>
  obtain⟨c,f⟩:=j;show gt ((c,f)::kD h i e.g) b=_;rw[gy,pp,n1]
theorem ba.oV (a:ba) (b:aA) (id:Nat):ai (a.app b).h id=(ai a.put id).or (if id∈a.S then none else ai b.h id):=by show ai (a.put++nR a.S b.h) id=_;rw[so,hQ,j3]
def hM.app {c t:aA} (b:hM c t) (a:ba):hM (a.app c) (a.app t):=
 ⟨λd=>by rw[ba.qj,ba.qj,b.g],λd=>by rw[ba.oV,ba.oV,b.h]⟩
def ev.seq {a:c8} {c:cH} (b:hM i X) (d:ev a i c v):ev a X c v:=d.less (λe=>.inr (b.g e).symm) (λid=>(b.h id).symm)
def x5:Option (Nat×ah)->cL->Bool
 |some b,some a=>Nat.beq b.1 a
 |none,none=>true
 |_,_=>false
def pE:ah->Bool
 |.dead=>false
 |_=>true
def ml (b c:cP):Bool:=b.all λa=>bU a c
theorem ml.ok (b:ml g y=true):∀a∈g,a∈y:=λa c=>eN.1 (et.1 b a c)
def mi (a:cP):ah->Bool
 |.ref id []=>bU (id+500000) a
 |_=>false
def sD:Op->Bool
 |.move _=>true
 |_=>false
def yo:Nat->List aM->Option (Nat×List aM)
 |k,.snd::a=>yo (k+1) a
 |k,.fst::a=>some (k,a)
 |_,_=>none
def u3:List aM->Option (Nat×List aM)
 |.deref::.unst::a=>yo 0 a
 |_=>none
def sx (q:List aM):cL:=match q with
 |[]=>some 1
 |q=>match u3 q with
  |some (a,[])=>some (2*a+2)
  |some (a,_::_)=>some (2*a+3)
  |none=>none
def nK:ah->Option cz
 |.ref id a=>match sx a with
  |some b=>some (id,b)
  |none=>none
 |.addr id a=>match sx a with
  |some b=>some (id,b)
  |none=>none
 |.app id a _ _ d=>match bU id d,u3 a with
  |false,some (c,_)=>some (id,2*c+3)
  |_,_=>none
 |_=>none
def pv (b:cP) (a:ah):Bool:=match nK a with
 |some (id,d)=>Nat.blt id 500000&&(bU (id+1000000*d) b&&a.ids.all λc=>Nat.beq c id||bU c b)
 |none=>false
def yZ (c:List aM) (a:Nat):Bool:=match u3 c with
 |some (b,d)=>Nat.beq a 1||(Nat.ble 2 a&&(!(Nat.beq (a/2) (b+1))||(Nat.beq (a %2) 0&&l3 d)))
 |none=>false
def oU (a:Operand->ah) (b:Oper):Option (Nat×List aM):=match b.op with
 |.call {callee:=.builtin .append,args:=xs,argTypes:=_}=>match xs.toList with
  |[x,_]=>match a x with
   |.ref id (d::c)=>some (id,d::c)
   |_=>none
  |_=>none
 |_=>none
def Cb (c:cP) (b:Operand->ah) (d:Oper):Bool:=c.all λa=>Nat.blt a 1000000||(match oU b d with
 |some (id,e)=>Nat.beq (a %1000000) (id+500000)&&(Nat.blt id 500000&&yZ e (a/1000000))
 |none=>false)
def Nz (a:cP) (c:List (Nat×List aM)) (b:cP):Bool:=b.all λid=>Nat.blt id 500000&&((bU id a&&(bU (id+500000) a||iK c (.ref id [])))||bU (id+1500000) a)
def wz:ah->Bool
 |.dh b=>b.all pE
 |a=>pE a
def lh (op:Op) (b:cP) (a:ah):Bool:=match op with
 |.extract _ d=>match a with
  |.dh e=>match e[d]? with
   |some c=>pE c&&(ml c.ids b||mi b c)
   |none=>false
  |_=>false
 |op=>wz a&&(ml a.ids b||((sD op&&mi b a)||pv b a))
def nW (c e:cP) (g:Operand->ah) (f:Oper) (b:ba):Bool:=
 x5 b.d f.dst&&(f.op.operands.toList.all λh=>lh f.op c (g h))&&Nz e b.keep b.S&&(b.put.all λa=>Nat.blt a.1 500000&&(bU a.1 e||bU (a.1+1500000) e))&&((match b.d with|some a=>ml a.2.ids c||(mi c a.2||pv c a.2)|none=>true)&&Cb e g f)
def fK {e:Type} (b:Bool) (d:Option a) (c:a->Option e):(bif b then d else none).bind c=bif b then d.bind c else none:=by cases b<;>rfl
def SF (tt:List (TypeId×ae)) (d:List (Nat×ay)) (c:TypeId) (f e:ah) (b:ba->Option a):ot tt d c f e b=(ot tt d c f e some).bind b:=by
 unfold ot;split
 ·rfl
 split
 case h_2=>rfl
 split
 ·rfl
 rw[fK];congr 1;split
 ·split
  case h_2=>rfl
  cases Nat.beq _ _
  ·simp only[cond_false,hh,aP]
  rfl
 ·split
  case h_2=>rfl
  rw[fK];simp only[hh,aP]
 split
 ·simp only[hh,aP]
 rfl
def BH (tt:List (TypeId×ae)) (d:List (Nat×ay)) (c:TypeId) (g e f:ah) (b:ba->Option a):ld tt d c g e f b=(ld tt d c g e f some).bind b:=by
 unfold ld;split
 case h_2=>rfl
 split
 case h_2=>rfl
 split
 case h_2=>rfl
 split
 case h_2=>rfl
 rw[fK];congr 1;split
 ·simp only[hh,aP]
 rfl
def Ol (tt:List (TypeId×ae)) (e:List (Nat×ay)) (d:Nat) (c:TypeId) (g f:ah) (b:ba->Option a):n8 tt e d c g f b=(n8 tt e d c g f some).bind b:=by
 unfold n8;split
 case h_2=>rfl
 split
 case h_2=>rfl
 split
 case h_2=>rfl
 split
 case h_2=>rfl
 split
 case h_2=>rfl
 rw[fK];simp only[hh,aP]
def LO (tt:List (TypeId×ae)) (d:List (Nat×ay)) (c:TypeId) (g e f:ah) (b:ba->Option a):nS tt d c g e f b=(nS tt d c g e f some).bind b:=by
 unfold nS;split
 case h_2=>rfl
 rw[fK,BH]
def Od (tt:List (TypeId×ae)) (d:List (Nat×ay)) (c:TypeId) (f e:ah) (b:ba->Option a):n7 tt d c f e b=(n7 tt d c f e some).bind b:=by
 unfold n7;split
 case h_2=>rfl
 split
 case h_2=>rfl
 split
 case h_2=>rfl
 split
 case h_2=>rfl
 rw[fK];simp only[hh,aP]
def J7 (tt:List (TypeId×ae)) (d:List (Nat×ae)) (f:List (Nat×ay)) (e:Nat) (c:TypeId) (g h:ah) (b:ba->Option a):lM tt d f e c g h b=(lM tt d f e c g h some).bind b:=by
 unfold lM;split
 ·rfl
 split
 ·split
  case h_2=>rfl
  rw[fK];congr 1;split
  ·simp only[hh,aP]
  split
  case h_2=>rfl
  split
  case h_2=>rfl
  split
  case h_2=>rfl
  cases Nat.beq _ _
  ·simp only[cond_false,hh,aP]
  rfl
 ·split
  case h_2=>rfl
  split
  case h_2=>rfl
  rw[fK];simp only[hh,aP]
 ·split
  case h_2=>rfl
  rw[fK];simp only[hh,aP]
 ·split
  case h_2=>rfl
  rw[fK];simp only[hh,aP]
 rfl
def Ka (tt:List (TypeId×ae)) (d:List (Nat×ae)) (f:List (Nat×ay)) (e:Nat) (c:TypeId) (g h:ah) (b:ba->Option a):k2 tt d f e c g h b=(k2 tt d f e c g h some).bind b:=by
 unfold k2;split
 ·unfold tW;split
  case h_2=>rfl
  split
  case h_2=>rfl
  split
  case h_2=>rfl
  rw[fK];simp only[hh,aP]
 exact J7 _ _ _ _ _ _ _ b
def Lc (tt:List (TypeId×ae)) (e:List (Nat×ay)) (d:Nat) (c:TypeId) (f g:ah) (b:ba->Option a):nL tt e d c f g b=(nL tt e d c f g some).bind b:=by
 unfold nL;split
 ·rfl
 split
 ·split
  case h_2=>rfl
  rw[fK];simp only[hh,aP]
 ·split
  case h_2=>rfl
  rw[fK];simp only[hh,aP]
 rfl
def Kv (tt:List (TypeId×ae)) (d:List (Nat×ae)) (g:List (Nat×ay)) (f:Operand->ah) (e:Nat) (c:TypeId) (h:List (Nat×Operand)) (b:ba->Option a):o0 tt d g f e c h b=(o0 tt d g f e c h some).bind b:=by
 unfold o0;split
 ·rfl
 split
 ·rw[fK];congr 1;split
  ·rw[fK];rfl
  rfl
 rw[fK];congr 1;split
 ·rfl
 split
 ·rw[fK];rfl
 rfl
def Ky (tt:List (TypeId×ae)) (d:List (Nat×ae)) (f:List (Nat×ay)) (e:Nat) (c:TypeId) (g:ah) (b:ba->Option a):qn tt d f e c g b=(qn tt d f e c g some).bind b:=by
 unfold qn;split
 ·split
  ·rw[fK];congr 1;split<;>rfl
  ·split
   ·rw[fK];rfl
   rfl
  rfl
 rfl
def KC (tt:List (TypeId×ae)) (d:List (Nat×ae)) (g:List (Nat×ay)) (f:Operand->ah) (e:Nat) (c:TypeId) (h:Nat) (i:List (Nat×Operand)) (b:ba->Option a):o2 tt d g f e c h i b=(o2 tt d g f e c h i some).bind b:=by
 unfold o2;split
 ·simp only;rw[fK];congr 1;split
  ·rfl
  split
  ·rw[fK];rfl
  rfl
 rfl
def uS {e:eQ} (c:Operand->ah) (d:List (Nat×ay)) (f:Oper) (b:ba->Option a):aj e c d f b=(aj e c d f some).bind b:=by
 unfold aj;split
 ·split
  ·exact SF _ _ _ _ _ b
  ·exact BH _ _ _ _ _ _ b
  ·exact BH _ _ _ _ _ _ b
  ·exact LO _ _ _ _ _ _ b
  ·split
   case h_2=>rfl
   exact Od _ _ _ _ _ b
  rfl
 rw[fK];congr 1;split
 ·split
  case h_2=>rfl
  split
  ·split<;>rfl
  split<;>rfl
 ·split
  case h_2=>rfl
  split
  ·rfl
  rw[fK];congr 1;simp only[kB,hh,fK,aP]
 ·split
  case h_2=>rfl
  rw[fK];congr 1;exact Ka _ _ _ _ _ _ _ b
 ·split
  case h_2=>rfl
  exact Lc _ _ _ _ _ _ b
 ·split
  ·rfl
  ·rfl
  ·rfl
  ·split
   ·rfl
   split
   ·simp only[hh,aP]
   simp only[hh,aP]
  simp only[hh,aP]
 ·exact Kv _ _ _ _ _ _ _ b
 ·exact Ol _ _ _ _ _ _ b
 ·exact Ky _ _ _ _ _ _ b
 ·exact KC _ _ _ _ _ _ _ _ b
 split
 ·rfl
 ·simp only[hh,aP]
 ·rw[fK];simp only[hh,aP]
 split
 ·rfl
 ·simp only[hh,aP]
 rfl
theorem Lv {f:eQ} (c:Operand->ah) (d:List (Nat×ay)) (e:Oper) (b:ba->Option a):hA f c d e b=(hA f c d e some).bind b:=by
 unfold hA;split
 ·exact uS c d e b
 rw[fK];congr 1;refine(uS _ _ _ _).trans (Eq.trans ?_ (congrArg (λg=>Option.bind g b) (uS _ _ _ _)).symm);simp only[hh,fK,aP]
def E6:∀{d:List aM} {c b:Nat} {e:List aM},yo c d=some (b,e)->c<=b/\d=List.replicate (b-c) .snd++.fst::e
 |[],_,_,_,a=>by cases a
 |s::d,c,b,e,a=>by
  cases s<;>simp only[yo] at a<;>first|(cases a;done)|skip
  ·cases a;exact⟨aZ _,ab⟩
  obtain⟨g,f⟩:=E6 a;refine⟨U,?_⟩;rw[(U:b-c=(b-(c+1))+1),List.replicate_succ,iA,<-f]
def yp {c:List aM} (a:u3 j=some (b,c)):j=.deref::.unst::(List.replicate b .snd++.fst::c):=by
 unfold u3 at a;split at a
 ·rename_i j;have:=(E6 a).2;rw[Nat.sub_zero] at this;rw[this]
 cases a
def x3:∀{j k:Nat} {r r':List aM},j≠k->h5 (List.replicate j .snd++.fst::r) (List.replicate k .snd++.fst::r')=true
 |0,0,_,_,a=>absurd rfl a
 |0,k+1,_,_,_=>rfl
 |j+1,0,_,_,_=>rfl
 |j+1,k+1,r,r',a=>x3 (j:=j) (k:=k) (r:=r) (r':=r') (λb=>a (by rw[b]))
def Fu:∀{j:Nat} {r:List aM},eM (List.replicate j .snd++.fst::r) (List.replicate j .snd++[.fst])=l3 r
 |0,r=>by cases r<;>rfl
 |j+1,r=>Fu (j:=j) (r:=r)
def Q3 {id:Nat} (h:yZ j b=true) (e:nK d=some (id,b)) (z:∀k∈d.ids,k=id\/k∉g):hn g [(id,j),(id,[])] d=true:=by
 unfold yZ at h;split at h
 case h_2=>cases h
 rename_i k t E;have p:=yp E;have C:l3 j=true:=(by rw[p];rfl);have H:∀i:Nat,Nat.beq i i=true:=oM;have w:∀f,sx f=some b->eM j f=true:=by
  intro f l;unfold sx at l;split at l
  ·have:eM j []=l3 j:=by cases j with|nil=>rfl|cons q j=>cases q<;>rfl
   rw[this];exact C
  split at l
  ·rename_i a o;cases l;rw[yp o,p];have m:(2*a+2)/2=a+1:=U;have n:(2*a+2) %2=0:=U;rw[m,n] at h;show eM (List.replicate k .snd++.fst::t) (List.replicate a .snd++[.fst])=true;by_cases c:k=a
   ·subst c;rw[Fu];simpa using h
   exact x2 (x3 c)
  ·rename_i a q F o;cases l;rw[yp o,p];have m:(2*a+3)/2=a+1:=U;have n:(2*a+3) %2=1:=U;rw[m,n] at h;show eM (List.replicate k .snd++.fst::t) (List.replicate a .snd++.fst::(q::F))=true;by_cases c:k=a
   ·subst c;simp at h
   exact x2 (x3 c)
  cases l
 unfold nK at e;split at e
 ·rename_i i f;split at e
  case h_2=>cases e
  rename_i y r;cases e;cases f with
  |nil=>simp[hn,iK]
  |cons q f=>simp[hn,iK,w _ r]
 ·rename_i i f;split at e
  case h_2=>cases e
  rename_i y r;cases e;simp[hn,iK,Bf,w _ r]
 ·rename_i i f J I v;split at e
  case h_2=>cases e
  rename_i a G u o;cases e;have m:(2*a+3)/2=a+1:=U;have n:(2*a+3) %2=1:=U;rw[m,n] at h;have A:h5 j f=true:=by
   rw[yp o,p];show h5 (List.replicate k .snd++.fst::t) (List.replicate a .snd++.fst::G)=true;by_cases c:k=a
   ·subst c;simp at h
   exact x3 c
  have D:(v.all λi=>!(bU i g))=true:=et.2 λx s=>by
   rcases z x (eH _ s) with c|c
   ·rw[c] at s;rw[eN.2 s] at u;cases u
   cases B:bU x g
   ·rfl
   exact absurd (eN.1 B) c
  show((v.all λi=>!(bU i g))&&([(id,j),(id,[])].any λc=>Nat.beq c.1 id&&h5 c.2 f))=true;rw[D];simp[A]
 cases e
section
theorem BE {g B:Operand->ah} {b:List (Nat×Operand)} (d:∀e∈b,g e.2=B e.2):∀(f:ae) (a:Nat),m2 g b f a=m2 B b f a
 |.pr j h,a=>by
  simp only[m2,BE d h (a+1)];cases i:jb b a with
  |none=>rfl
  |some c=>
   have:g c=B c:=d (a,c) (vc i);grind
 |.nil,_=>rfl
 |.int _,_=>rfl
 |.bool,_=>rfl
 |.str,_=>rfl
 |.aU _ _,_=>rfl
 |.ptr _ _,_=>rfl
 |.osl _,_=>rfl
 |.optr _,_=>rfl
 |.st _,_=>rfl
 |.bJ,_=>rfl
 |.mp _,_=>rfl
 |.di _ _,_=>rfl
theorem F2 {h:List (Nat×ay)} {g B:Operand->ah} {b:List (Nat×Operand)} (d:∀e∈b,g e.2=B e.2):∀(f:ae) (a:Nat),j4 h g b f a=j4 h B b f a
 |.pr k i,a=>by
  simp only[j4,F2 d i (a+1)];cases j:jb b a with
  |none=>rfl
  |some c=>
   have:g c=B c:=d (a,c) (vc j);grind
 |.nil,_=>rfl
 |.int _,_=>rfl
 |.bool,_=>rfl
 |.str,_=>rfl
 |.aU _ _,_=>rfl
 |.ptr _ _,_=>rfl
 |.osl _,_=>rfl
 |.optr _,_=>rfl
 |.st _,_=>rfl
 |.bJ,_=>rfl
 |.mp _,_=>rfl
 |.di _ _,_=>rfl
section
variable {tt:List (TypeId×ae)} {an:List (Nat×ae)} {h A:List (Nat×ay)} {d:Nat} {g B:Operand->ah}
theorem yY {a:cG} (c:∀b∈a.toArray,g b=B b):a.map g=a.map B:=by
 cases a with
 |none=>rfl
 |some b=>grind
theorem LW (b:∀a∈N.operands,g a=B a):eD tt an h g d N=eD tt an h B d N:=by
 cases N
 case build T ps=>
  have:∀e∈ps.toList,g e.2=B e.2:=λe k=>b e.2 (by simp only[Op.operands,tG,b0];grind);grind [BE,eD,tZ]
 case buildSlice T n ps=>
  have:∀e∈ps.toList,g e.2=B e.2:=λe k=>b e.2 (by simp only[Op.operands,tG,b0];grind);grind [List.map_congr_left,eD,r1]
 case slice T a lo hi m=>
  simp only[Op.operands] at b;have r:g a=B a:=b a ab;have s:lo.map g=lo.map B:=yY (λf l=>b f (by grind));have t:hi.map g=hi.map B:=yY (λf l=>b f (by grind));cases m
  ·grind [eD]
  rfl
 case makeMap T o=>
  cases o<;>rfl
 case makeFunc j q cs=>
  cases j<;>try rfl
  grind [List.map_congr_left,Array.mem_append_right,eD,Op.operands]
 case call c=>
  obtain⟨p,i,w⟩:=c;have u:∀a∈i.toList,g a=B a:=λa v=>b a (by grind [Array.mem_append_right,Op.operands,Call.operands]);clear b;simp only[eD];split
  ·grind
  ·grind [List.map_congr_left]
  ·grind [List.map_congr_left]
  rfl
 all_goals (simp only[Op.operands] at b;simp only[eD])
 all_goals (first|rfl|(simp_all;done))
theorem LZ (b:∀a∈N.operands,g a=B a):hP tt an h g d N=hP tt an h B d N:=by
 cases N
 case slice T a lo hi j=>
  simp only[Op.operands] at b;have f:g a=B a:=b a ab;have l:lo.map g=lo.map B:=yY (λe i=>b e (by grind));have m:hi.map g=hi.map B:=yY (λe i=>b e (by grind));cases j
  ·simp_all [hP]
  rfl
 case call c=>
  grind [Array.mem_append_right,aj,hP,Op.operands,Call.operands]
 case unOp k T a=>
  have f:g a=B a:=b a (by simp[Op.operands]);cases k<;>simp only[hP,f]
 all_goals (simp only[Op.operands] at b;simp only[hP])
 all_goals (first|rfl|(simp_all;done))
theorem Et {k:eQ} {n:Oper} {r:ba->Option a} (c:∀j∈n.op.operands,g j=B j):aj k g h n r=aj k B h n r:=by
 have x:=λ(d:Nat)=>LZ (tt:=k.tt) (an:=k.an) (h:=h) (d:=d) c;have w:=λ(d:Nat)=>LW (tt:=k.tt) (an:=k.an) (h:=h) (d:=d) c;unfold aj;cases y:n.dst with
 |none=>
  simp only;split
  ·grind [Op.operands]
  ·grind [Op.operands]
  ·grind [Op.operands]
  ·grind [Op.operands]
  ·rename_i i t e;rw[e] at c;split
   ·rename_i j u l s aj _;have p:∀b∈i.toList,g b=B b:=λb m=>c b (by grind [Array.mem_append_right,Op.operands,Call.operands]);grind
   rfl
  rfl
 |some d=>
  simp only;congr 1;split
  ·grind [Op.operands]
  ·rename_i b i _ e;rw[e] at c;have:i.toList.map g=i.toList.map B:=hu λj p=>c j (by grind [Array.mem_append_right,Op.operands,Call.operands]);have m:g b=B b:=c b (by simp[Op.operands,Call.operands]);rw[this,m]
  ·rename_i i t e;rw[e] at c;split
   ·rename_i j u l s aj _;have p:∀b∈i.toList,g b=B b:=λb m=>c b (by grind [Array.mem_append_right,Op.operands,Call.operands]);grind
   rfl
  ·rename_i i t e;rw[e] at c;split
   ·rename_i j u l s aj _;have p:∀b∈i.toList,g b=B b:=λb m=>c b (by grind [Array.mem_append_right,Op.operands,Call.operands]);grind
   rfl
  ·grind [Op.operands]
  ·rename_i l q e;rw[e] at c;have o:∀f∈q.toList,g f.2=B f.2:=λf v=>c f.2 (by simp only[Op.operands,tG,b0];grind);simp only[o0,BE o,F2 o]
  ·grind [Op.operands]
  ·grind [Op.operands]
  ·rename_i l z q e;rw[e] at c;have o:∀f∈q.toList,g f.2=B f.2:=λf v=>c f.2 (by simp only[Op.operands,tG,b0];grind);grind [List.map_congr_left,o2]
  grind
def ed (h A:List (Nat×ay)) (a:ah):Prop:=∀id∈a.ids,ai h id=ai A id
def Ra (a:ed h A t):oe h t=oe A t:=by
 cases t with
 |ref id b=>simp only[oe,a id (by simp[ah.ids])]
 |_=>rfl
theorem Q9 {id:Nat} (a:oe h t=some (id,j)):id∈t.ids:=by
 unfold oe at a;split at a
 ·grind [ah.ids]
 ·grind [ah.ids]
 grind
theorem SG {b:ah} {d:ba->Option a} (e:ed h A b) (g:ed h A t):ot tt h c b t d=ot tt A c b t d:=by
 unfold ot;rw[<-Ra e];split
 ·rfl
 rename_i id j f;rw[e id (Q9 f)];cases t with
 |ref i k=>simp only[g i (by simp[ah.ids])]
 |_=>rfl
theorem I5 (a:ed h A t):iv h n t=iv A n t:=by
 cases t with
 |ref id b=>simp only[iv,a id (by simp[ah.ids])]
 |view id b e d=>simp only[iv,a id (by simp[ah.ids])]
 |val c g=>cases c<;>rfl
 |bu f=>unfold iv;grind
 |_=>rfl
theorem J8 {e:ah} {j:ba->Option a} (f:ed h A e) (k:ed h A t) (n:ai h d=ai A d):lM tt an h d c e t j=lM tt an A d c e t j:=by
 unfold lM;split
 ·rfl
 have g:∀i:ae,iv h i t=iv A i t:=λi=>I5 k;cases e with
 |ref id b=>
  cases b with
  |nil=>
   simp only[f id (by simp[ah.ids]),g];cases t with
   |ref o l=>
    cases l with
    |nil=>simp only[k o (by simp[ah.ids])]
    |cons m l=>rfl
   |_=>rfl
  |cons m b=>simp only[f id (by simp[ah.ids]),g,n]
 |view id b q p=>
  cases b with
  |nil=>simp only[f id (by simp[ah.ids]),g]
  |cons m b=>rfl
 |bu r=>grind
 |_=>rfl
def QU {a:ah} (d:ed h A t):rc h a t=rc A a t:=by
 unfold rc;cases a with
 |ref id b=>
  cases b with
  |nil=>rfl
  |cons f b=>
   cases t with
   |ref e c=>
    cases c with
    |nil=>simp only[d e (by simp[ah.ids])]
    |cons g c=>rfl
   |_=>rfl
 |_=>rfl
theorem Kb {b:ah} {e:ba->Option a} (g:ed h A t) (i:ed h A b) (f:ai h d=ai A d):k2 tt an h d c t b e=k2 tt an A d c t b e:=by
 unfold k2;rw[QU i,J8 g i f];split
 ·rename_i id l k m j;obtain⟨rfl,_,_⟩:=B8 j;unfold tW;rw[g id (by simp[ah.ids]),f]
 rfl
theorem Ld {e:ah} {g:ba->Option a} (i:ed h A e) (k:ed h A t):nL tt h d c e t g=nL tt A d c e t g:=by
 unfold nL;split
 ·rfl
 have j:∀f:ae,iv h f t=iv A f t:=λf=>I5 k;cases e with
 |ref id b=>
  cases b with
  |nil=>simp only[i id (by simp[ah.ids]),j]
  |cons l b=>rfl
 |view id b n m=>
  cases b with
  |nil=>simp only[i id (by simp[ah.ids]),j]
  |cons l b=>rfl
 |_=>rfl
theorem zZ (b:ed h A t):mM an h d t=mM an A d t:=by
 cases t with
 |ref id a=>
  cases a with
  |nil=>simp only[mM,b id (by simp[ah.ids])]
  |cons c a=>rfl
 |view id a f e=>
  cases a with
  |nil=>simp only[mM,b id (by simp[ah.ids])]
  |cons c a=>rfl
 |bu t=>unfold mM;grind
 |_=>rfl
def Q0 (b:ed h A t):s3 h n t=s3 A n t:=by
 cases t with
 |ref id a=>
  cases a with
  |nil=>simp only[s3,b id (by simp[ah.ids])]
  |cons c a=>rfl
 |_=>rfl
def F3 {b:List (Nat×Operand)} (c:∀i∈b,ed h A (g i.2)):∀(d:ae) (a:Nat),j4 h g b d a=j4 A g b d a
 |.pr k e,a=>by
  simp only[j4,F3 c e (a+1)];cases f:jb b a with
  |none=>rfl
  |some j=>simp only[Q0 (c (a,j) (vc f))]
 |.nil,_=>rfl
 |.int _,_=>rfl
 |.bool,_=>rfl
 |.str,_=>rfl
 |.aU _ _,_=>rfl
 |.ptr _ _,_=>rfl
 |.osl _,_=>rfl
 |.optr _,_=>rfl
 |.st _,_=>rfl
 |.bJ,_=>rfl
 |.mp _,_=>rfl
 |.di _ _,_=>rfl
def KZ (b:ed h A t):qp h n t=qp A n t:=by
 cases t with
 |ref id a=>
  cases a with
  |nil=>simp only[qp,b id (by simp[ah.ids])]
  |cons c a=>rfl
 |_=>rfl
theorem Ef {c:ae}:∀{l:List ah},(∀a∈l,ed h A a)->qq h c l=qq A c l
 |[],_=>rfl
 |x::d,b=>by simp only[qq,KZ (b x ab),Ef (l:=d) (λa e=>b a (by grind))]
def DO (a:ed h A t):k3 h y t n=k3 A y t n:=by
 cases t with
 |ref id b=>simp only[k3,a id (by simp[ah.ids])]
 |_=>rfl
theorem ah.FY {id:Nat} (c:t∈L) (e:id∈t.ids):id∈(ah.bY b L).ids:=by obtain⟨a,d,rfl⟩:=g3.1 c;exact ah.vj (l:=L) (i:=a) (bB d) e
theorem Fa {b:cP}:∀{τs:List ae} {avs:List ah},(∀a∈avs,ed h A a)->l1 h b τs avs=l1 A b τs avs
 |[],[],_=>rfl
 |[],_::_,_=>rfl
 |_::_,[],_=>rfl
 |τ::e,d::as,c=>by simp only[l1,DO (c d ab),Fa (τs:=e) (avs:=as) (λa f=>c a (by grind))]
theorem pj {S:cP}:∀{ps:List eV} {avs:List ah},(∀b∈avs,ed h A b)->dC h S ps avs=dC A S ps avs
 |[],[],_=>rfl
 |[],_::_,_=>rfl
 |p::d,[],_=>by cases p<;>rfl
 |.v q::d,e::as,a=>by simp only[dC,DO (a e ab),pj (ps:=d) (avs:=as) (λb g=>a b (by grind))]
 |.c z r::d,e::as,a=>by
  have f:=pj (S:=S) (ps:=d) (avs:=as) (λb g=>a b (by grind));cases e with
  |bY u i=>
   have:l1 h S r i=l1 A S r i:=Fa (λb g id t=>a (.bY u i) ab id (ah.FY g t));grind [dC]
  |_=>rfl
 |.m q::d,e::as,a=>by
  have f:=pj (S:=S) (ps:=d) (avs:=as) (λb g=>a b (by grind));cases e with
  |ref id p=>
   cases p with
   |nil=>simp only[dC,a (.ref id []) ab id (by simp[ah.ids]),f]
   |cons l p=>rfl
  |_=>rfl
 |.o q::d,e::as,a=>by
  have f:=pj (S:=S) (ps:=d) (avs:=as) (λb g=>a b (by grind));cases e with
  |ref id p=>
   cases p with
   |nil=>simp only[dC,a (.ref id []) ab id (by simp[ah.ids]),f]
   |cons l p=>rfl
  |bu x=>grind [dC]
  |_=>rfl
 |.w B::d,e::as,a=>by
  have f:=pj (S:=S) (ps:=d) (avs:=as) (λb g=>a b (by grind));cases e with
  |view id p k j=>
   cases p with
   |nil=>simp only[dC,a (.view id [] k j) ab id (by simp[ah.ids]),f]
   |cons l p=>rfl
  |_=>rfl
 |.n::d,e::as,a=>by
  have f:=pj (S:=S) (ps:=d) (avs:=as) (λb g=>a b (by grind));cases e with
  |bu x=>grind [dC]
  |_=>rfl
 |.s y i::d,e::as,a=>by
  have f:=pj (S:=S) (ps:=d) (avs:=as) (λb g=>a b (by grind));cases e with
  |ref id p=>grind [dC]
  |view id p k j=>grind [dC]
  |_=>simp only[dC,f]
theorem NO (a:ed h A t):q1 tt h c t=q1 tt A c t:=by
 unfold q1;cases t with
 |ref id d=>simp only[a id (by simp[ah.ids])]
 |app id d b i e=>simp only[a id (by simp[ah.ids])]
 |val b j=>cases ey tt c with|none=>rfl|some f=>cases b<;>rfl
 |bu g=>grind
 |_=>rfl
theorem Ov (a:ed h A t):q7 tt h c t=q7 tt A c t:=by
 unfold q7;cases t with
 |ref id d=>simp only[a id (by simp[ah.ids])]
 |val b f=>cases im tt c with|none=>rfl|some e=>cases b<;>rfl
 |_=>rfl
def NX {a:ah} (b:ed h A t):q3 tt h c t a I=q3 tt A c t a I:=by
 unfold q3;cases t with
 |ref id e=>simp only[b id (by simp[ah.ids])]
 |val d f=>split<;>first|rfl|(cases d<;>rfl)
 |_=>split<;>rfl
theorem Ot (a:ai h d=ai A d):sP tt an h d c=sP tt an A d c:=by grind [sP]
theorem BI {b:ba->Option a} {d e:ah} (f:ed h A t):ld tt h c t d e b=ld tt A c t d e b:=by
 unfold ld;cases t with
 |ref id g=>simp only[f id (by simp[ah.ids])]
 |_=>rfl
theorem Om {b:ba->Option a} {e:ah} (f:ed h A t):n8 tt h d c t e b=n8 tt A d c t e b:=by
 unfold n8;cases t with
 |ref id g=>simp only[f id (by simp[ah.ids])]
 |_=>rfl
theorem LP {b:ba->Option a} {d e:ah} (f:ed h A t):nS tt h c t d e b=nS tt A c t d e b:=by unfold nS;grind [BI]
theorem Oe {b:ba->Option a} {d:ah} (e:ed h A t):n7 tt h c t d b=n7 tt A c t d b:=by
 unfold n7;cases t with
 |ref id f=>simp only[e id (by simp[ah.ids])]
 |_=>rfl
def Nb {b:ah} (a:ed h A t):qW tt h c t b=qW tt A c t b:=by
 unfold qW;cases t with
 |ref id d=>simp only[a id (by simp[ah.ids])]
 |view id d g f=>simp only[a id (by simp[ah.ids])]
 |val e j=>cases e<;>rfl
 |bu i=>rfl
 |_=>rfl
theorem NU (a:ed h A t):q2 tt h c t=q2 tt A c t:=by
 unfold q2;cases t with
 |ref id b=>simp only[a id (by simp[ah.ids])]
 |addr id b=>simp only[a id (by simp[ah.ids])]
 |val d f=>cases d<;>first|rfl|grind
 |bu e=>rfl
 |_=>rfl
theorem Mw (a:ed h A t):qR tt h c t b=qR tt A c t b:=by
 unfold qR;cases t with
 |ref id d=>simp only[a id (by simp[ah.ids])]
 |addr id d=>simp only[a id (by simp[ah.ids])]
 |val e g=>cases e<;>first|rfl|grind
 |bu f=>rfl
 |_=>rfl
def My (a:ed h A t):hX.sy tt h c t b=hX.sy tt A c t b:=by
 unfold hX.sy;cases t with
 |ref id e=>simp only[a id (by simp[ah.ids])]
 |val d g=>cases d<;>rfl
 |bu f=>rfl
 |_=>rfl
def OL (a:ed h A t):ra h t=ra A t:=by
 unfold ra;cases t with
 |ref id c=>simp only[a id (by simp[ah.ids])]
 |val b e=>cases b<;>rfl
 |bu d=>rfl
 |_=>rfl
def Sp {b a:Option ah} (d:ed h A t):rm tt h c t b a=rm tt A c t b a:=by
 unfold rm;cases t with
 |ref id f=>simp only[d id (by simp[ah.ids])]
 |val e i=>cases e<;>rfl
 |bu g=>rfl
 |_=>rfl
theorem N9 {a:ah} (b:ai h d=ai A d):q5 tt an h d c a t=q5 tt an A d c a t:=by grind [q5]
theorem JZ (a:ai h d=ai A d):rT tt an h d c=rT tt an A d c:=by grind [rT]
theorem LX (b:∀a∈N.operands,ed h A (g a)) (e:ai h d=ai A d):eD tt an h g d N=eD tt an A g d N:=by
 cases N
 case box T a=>grind [eD,ua]
 case buildSlice T n ps=>grind [eD,r1]
 case alloc T=>exact JZ e
 case makeSlice T l c=>exact N9 e
 case makeMap T o=>
  cases o
  ·exact Ot e
  rfl
 case lookup T a k ok=>exact NX (b a (by simp[Op.operands]))
 case load T a=>exact NU (b a (by simp[Op.operands]))
 case nilCheck a=>exact OL (b a (by simp[Op.operands]))
 case indexAddr T a i=>exact Nb (b a (by simp[Op.operands]))
 case fieldAddr T a n=>exact Mw (b a (by simp[Op.operands]))
 case field T a n=>exact My (b a (by simp[Op.operands]))
 case slice T a lo hi m=>
  cases m
  ·exact Sp (b a (by simp[Op.operands]))
  rfl
 case call c=>
  obtain⟨p,f,t⟩:=c;have r:∀a∈f.toList,ed h A (g a):=λa s=>b a (by grind [Array.mem_append_right,Op.operands,Call.operands]);clear b;simp only[eD];split
  ·grind [Ov,NO]
  ·rfl
  ·rfl
  rfl
 case makeFunc j q cs=>cases j<;>rfl
 all_goals rfl
theorem L0 (j:∀b∈N.operands,ed h A (g b)) (y:ai h d=ai A d):hP tt an h g d N=hP tt an A g d N:=by
 cases N
 case lookup f b k ok=>
  have a:=j b (by simp[Op.operands]);simp only[hP];split
  ·rename_i v id e z aj q x;rw[q] at a;rw[a id (by simp[ah.ids])]
  rfl
 case makeSlice f l c=>grind [hP]
 case unOp u f b=>cases u<;>rfl
 case indexAddr f b i=>
  have a:=j b (by simp[Op.operands]);simp only[hP];revert a;cases g b with
  |ref id e=>intro a;simp only[a id (by simp[ah.ids])]
  |view id e s r=>
   intro a;cases e with
   |nil=>simp only[a id (by simp[ah.ids])]
   |cons=>rfl
  |val m o=>intro _;cases m<;>rfl
  |_=>intro _;rfl
 case load f b=>
  have a:=j b (by simp[Op.operands]);simp only[hP];revert a;cases g b with
  |ref id e=>intro a;simp only[a id (by simp[ah.ids])]
  |addr id e=>intro a;simp only[a id (by simp[ah.ids])]
  |val m o=>intro _;cases m<;>rfl
  |_=>intro _;rfl
 case slice f b s r t=>
  have a:=j b (by simp[Op.operands]);cases t
  ·simp only[hP];revert a;cases g b with
   |ref id e=>intro a;simp only[a id (by simp[ah.ids])]
   |val m o=>intro _;cases m<;>rfl
   |_=>intro _;rfl
  rfl
 case call c=>
  obtain⟨w,p,B⟩:=c;have n:∀b∈p.toList,ed h A (g b):=λb a=>j b (by grind [Array.mem_append_right,Op.operands,Call.operands]);clear j;simp only[hP];split
  ·rename_i b f aj _;rw[aj] at n;have a:=n b ab;cases ey tt f with
   |none=>
    revert a;cases g b with
    |ref id e=>intro a;simp only;rw[a id (by simp[ah.ids])]
    |_=>intro _;rfl
   |some v=>
    revert a;cases g b with
    |ref id e=>intro a;simp only;rw[a id (by simp[ah.ids])]
    |_=>intro _;rfl
  rfl
 all_goals rfl
theorem pA {a:Callee} (b:m∈R.toList):m∈(Op.call {callee:=a,args:=R,argTypes:=V}).operands:=by grind [Array.mem_append_right,Op.operands,Call.operands]
theorem Eu {t:eQ} {s:Oper} (a:aj t g h s some=some p) (e:∀l∈s.op.operands,ed h A (g l)) (o:∀d,s.dst=some d->ai h d=ai A d) (q:∀b∈p.put,ai h b.1=ai A b.1):aj t g A s some=some p:=by
 unfold aj at a|-;cases v:s.dst with
 |none=>
  rw[v] at a;simp only at a|-;split at a
  ·grind [SG,Op.operands]
  ·grind [BI,Op.operands]
  ·grind [BI,Op.operands]
  ·grind [LP,Op.operands]
  ·grind [Oe,pA]
  omega
 |some d=>
  rw[v] at a;have o:=o d v;simp only at a|-;cases G:eZ t.n t.pin d with
  |false=>grind
  |true=>
  rw[G] at a;simp only[cond_true] at a|-;split at a
  ·omega
  ·rename_i J z _ i;rw[i] at e;split at a
   case h_2=>cases a
   rename_i D x I
   try rw[I]
   try simp only
   have F:∀j∈z.toList.map g++x,ed h A j:=λj k=>by
    rcases eR.1 k with k|k
    ·grind [pA]
    intro id N;exact e J (by simp[Op.operands,Call.operands]) id (by grind [ah.FY])
   split at a
   ·cases a
   rename_i c K;cases E:Nat.beq c.f D with
   |false=>grind
   |true=>
   rw[E] at a;simp only[cond_true,kB] at a|-;rw[<-pj F];obtain⟨j,k,a⟩:=bP.1 a;obtain⟨m,H,a⟩:=bP.1 a;simp only[k,H,aP];cases C:kw d ⟨[],h⟩ (z.toList.map g++x) (ef c.ps j m) (gA c.rs (fM c.ps m)) with
   |false=>grind
   |true=>
   rw[C] at a;have L:kw d ⟨[],A⟩ (z.toList.map g++x) (ef c.ps j m) (gA c.rs (fM c.ps m))=true:=(by rw[<-C];unfold kw;congr 1;rw[nm,et,et];cases a;have w:∀b∈gB d (gj (gA c.rs (fM c.ps m))) 0 (gA c.rs (fM c.ps m)),ai h b.1=ai A b.1:=λb w=>q b (by grind);grind);grind
  ·grind [Kb,pA]
  ·grind [Ld,pA]
  ·rename_i l i;rw[i] at e;have r:=e l (by simp[Op.operands]);revert a r;cases g l with
   |val T S=>grind
   |bu R=>grind [zZ]
   |ref id u=>grind [zZ]
   |view id u O M=>grind [zZ]
   |_=>intro a _;exact a
  ·rename_i B y i;rw[i] at e;have q:∀b∈y.toList,ed h A (g b.2):=λb w=>e b.2 (by simp only[Op.operands,tG,b0];grind);rw[<-a];simp only[o0,F3 q,o]
  ·grind [Om,Op.operands]
  ·rename_i B l i;rw[i] at e;have r:=e l (by simp[Op.operands]);rw[<-a];simp only[qn,o];revert r;cases g l with
   |ref id u=>
    intro r;cases u with
    |nil=>simp only[r id (by simp[ah.ids])]
    |cons Q u=>rfl
   |_=>intro _;rfl
  ·rename_i B P y i;rw[i] at e;have q:∀j∈y.toList.map (λb=>g b.2),ed h A j:=λj k=>by
    obtain⟨b,w,rfl⟩:=b0.1 k;exact e b.2 (by simp only[Op.operands,tG,b0];grind)
   rw[<-a];simp only[o2,Ef q,o]
  grind [L0,LX]
end
theorem IV:∀d∈ox N,d∈N.operands:=by
 intro d b;cases N<;>simp only[ox] at b<;>first|(cases b;done)|skip
 case assign y=>grind [Op.operands]
 case box T y=>grind [Op.operands]
 case build T ps=>grind [Op.operands]
 case buildSlice T n ps=>grind [Op.operands]
 case store T a v=>grind [Op.operands]
 case mapUpdate T a k v=>grind [Op.operands]
 case insert T a k v=>grind [Op.operands]
 case entryStore T a k v=>grind [Op.operands]
 case call c=>
  obtain⟨f,e,g⟩:=c;simp only at b;split at b
  ·exact pA b
  ·exact pA (List.mem_of_mem_drop b)
  grind
theorem ym {e:cR} {f:Nat} {g:Operand->ah}:∀{a:List Operand},∀id∈jx e f g a,∃x∈a,g x=.ref id []
 |[],id,h=>by cases h
 |x::a,id,h=>by
  simp only[jx] at h;split at h
  ·rename_i j i;rw[Bool.cond_eq_ite] at h;split at h
   ·rcases dw.1 h with rfl|h
    ·grind
    obtain⟨d,c,b⟩:=ym id h;grind
   obtain⟨d,c,b⟩:=ym id h;grind
  obtain⟨d,c,b⟩:=ym id h;grind
theorem E5 {a:cR} {c:Nat} {g B:Operand->ah}:∀{l:List Operand},(∀x∈l,g x=B x)->jx a c g l=jx a c B l
 |[],_=>rfl
 |x::l,b=>by simp only[jx,b x ab,E5 (l:=l) (λd e=>b d (by grind))]
theorem E4 {h A:List (Nat×ay)} (c:∀id∈g,ai h id=ai A id) (a:ah):eK h g a=eK A g a:=by
 cases a with
 |ref id b=>
  cases b with
  |nil=>
   grind [eN,bU,eK]
  |cons d b=>rfl
 |_=>rfl
theorem MH {h A:List (Nat×ay)} (d:∀id∈g,ai h id=ai A id) (a:ah):gh h g a=gh A g a:=by
 by_cases c:∃b,a=.dh b
 ·obtain⟨b,rfl⟩:=c;grind [List.map_congr_left,E4,gh]
 grind [AW,E4]
theorem E3 {h:List (Nat×ay)}:∀id∈(eK h g d).ids,id∈d.ids:=by
 intro id b;rcases j1 h g d with⟨e,c,rfl,_,_,a⟩|⟨a,_⟩|⟨a,_⟩
 ·rw[a] at b;have:(nX c).ids=[]:=(by unfold nX;split<;>rfl);grind
 ·rw[a] at b;cases b
 grind
def Fm {c:ah->ah} (d:∀a,∀id∈(c a).ids,id∈a.ids):∀{b:List ah} {id:Nat},id∈ah.k7 (b.map c)->id∈ah.k7 b
 |[],_,h=>h
 |a::b,id,h=>by simp only[eG,ah.k7,eR] at h|-;exact h.imp (d a id) (Fm d)
theorem MG {h:List (Nat×ay)}:∀id∈(gh h g d).ids,id∈d.ids:=by
 by_cases c:∃a,d=.dh a
 ·obtain⟨a,rfl⟩:=c;exactλid b=>Fm (λd=>E3) b
 grind [AW,E3]
theorem Lx {i:eQ} {g B:Operand->ah} {h A:List (Nat×ay)} {b:Oper} (c:hA i g h b some=some p) (o:∀a∈b.op.operands,g a=B a) (n:∀a∈b.op.operands,ed h A (g a)) (t:∀d,b.dst=some d->ai h d=ai A d) (y:∀l∈p.put,ai h l.1=ai A l.1):hA i B A b some=some p:=by
 unfold hA at c|-;rw[<-E5 (λa f=>o a (IV a f))];split
 ·rename_i j;rw[j] at c;rw[<-Et o];grind [Eu]
 rename_i x;split at c
 ·grind
 have j:∀id∈jx i.nY (qT b) g (ox b.op),ai h id=ai A id:=λid k=>(by obtain⟨a,f,p⟩:=ym id k;exact n a (IV a f) id (by grind [ah.ids]));generalize jx i.nY (qT b) g (ox b.op)=e at c j|-;have r:kx A e=kx h e:=(by unfold kx;grind);rw[r];cases s:kx h e with
 |false=>grind
 |true=>
 rw[s] at c;simp only[cond_true] at c|-;rw[uS] at c|-;obtain⟨m,q,v⟩:=bP.1 c;have z:m.put=p.put:=(by grind);have w:aj i (λa=>gh A e (B a)) (del e A) b some=some m:=by
  rw[<-Et (g:=λa=>gh h e (g a)) (λa f=>by grind [MH])];refine Eu q (λa f id k=>?_) (λd u=>?_) (λl C=>?_)
  ·rw[j3,j3,n a f id (MG id k)]
  ·rw[j3,j3,t d u]
  grind [j3]
 grind
end
section
def m3 (D:Array Oper) (a:Nat):cP:=match D[a]? with
 |some b=>(b.after.toList.filter (Region.binds .any)).map (·.on)
 |none=>[]
def tg (a:Nat):ba:=⟨some (a,.bu undef),[],[],[]⟩
def x6 (ic:eQ) {d:Type} (G C:cP) (a:aA) (c:Oper) (e:ba->Option d):Option d:=
 hA ic (aE a.g) a.h c λb=>bif nW G C (aE a.g) c b then e b else none
def fS (ic:eQ) (D:Array Oper) (G C:Nat->cP) (e:Nat) (b:aA) (d:ba):Prop:=
 ∃a,D[e]?=some a/\((hT D b a true/\hA ic (aE b.g) b.h a some=some d/\nW (G e) (C e) (aE b.g) a d=true)\/(hT D b a false/\∃c,a.dst=some c/\eZ ic.n ic.pin c=true/\d=tg c))
def pk (ic:eQ) {k:Type} (D:Array Oper) (G C:Nat->cP):cP->aA->(aA->Option k)->Option k
 |[],a,b=>b a
 |i::e,a,b=>match D[i]? with
  |none=>none
  |some f=>match f.guard with
   |none=>x6 ic (G i) (C i) a f λj=>pk ic D G C e (j.app a) b
   |some (
    l,pS)=>match(D[l]?).bind (·.dst),f.dst with
    |some d,some c=>match gt a.g d with
     |.val .bool m=>bif eZ ic.n ic.pin c then
      (match m==pS with
      |true=>x6 ic (G i) (C i) ⟨(d,.val .bool pS)::a.g,a.h⟩ f λj=>pk ic D G C e (j.app ⟨(d,.val .bool pS)::a.g,a.h⟩) b
      |false=>pk ic D G C e ⟨(c,.bu undef)::(d,.val .bool (!pS))::a.g,a.h⟩ b) else none
     |.bu (.tuple _)=>bif eZ ic.n ic.pin c then pk ic D G C e ⟨(c,.bu undef)::a.g,a.h⟩ b else none
     |_=>none
    |_,_=>none
def kX (ic:eQ) (D:Array Oper) (G C:Nat->cP):cP->aA->aA->Prop
 |[],a,b=>hM a b
 |i::d,a,b=>∃c,fS ic D G C i a c/\kX ic D G C d (c.app a) b
theorem J6 {tt:List (TypeId×ae)} {id:Nat} (a:k2 tt k e b c (.ref id (T::j)) d some=some p):p.keep=[(id,T::j),(id,[])]/\p.S=[id]/\ai p.put id=ai e id:=by
 have n:∀{g:ah} {f:ay},ai e id=some f->ai e b=none->some (ba.mk (some (b,g)) [id] [(id,T::j),(id,[])] [(b,⟨.bJ,()⟩),(id,f)])=some p->p.keep=[(id,T::j),(id,[])]/\p.S=[id]/\ai p.put id=ai e id:=(by intro g f h o i;cases i;have l:¬b=id:=λp=>(by grind);exact⟨rfl,rfl,by rw[bv,ag l,bv,ak rfl,h]⟩);unfold k2 at a;split at a
 ·rename_i q s r t m;obtain⟨aj,_,_⟩:=B8 m;cases aj;unfold tW at a;split at a
  case h_2=>cases a
  grind [Option.bind_eq_some_iff]
 unfold lM at a;split at a
 ·cases a
 rename_i u _;simp only at a;split at a
 case h_2=>cases a
 grind [Option.bind_eq_some_iff]
theorem zX {id:Nat} (e:oU E h=some (id,j)):∃d f c g b a,h.op=.call {callee:=.builtin .append,args:=d,argTypes:=f}/\d.toList=[c,g]/\j=b::a/\E c=.ref id (b::a):=by unfold oU at e;grind
theorem Es {ic:eQ} {g:Operand->ah} {id:Nat} {b:List aM} (f:h.op=.call {callee:=.builtin .append,args:=R,argTypes:=V}) (k:R.toList=[m,w]) (o:j=T::b) (l:g m=.ref id (T::b)) (a:aj ic g e h some=some p):p.keep=[(id,j),(id,[])]/\p.S=[id]/\ai p.put id=ai e id:=by
 unfold aj at a;cases d:h.dst with
 |none=>grind
 |some c=>
  rw[d] at a;simp only at a;cases i:eZ ic.n ic.pin c with
  |false=>grind
  |true=>
  rw[i] at a;simp only[cond_true,f,k] at a;grind [J6]
theorem Ew {ic:eQ} {id:Nat} (x:oU E h=some (id,j)) (c:hA ic E e h some=some p):p.keep=[(id,j),(id,[])]/\ai p.put id=ai e id:=by
 obtain⟨N,L,k,O,i,f,q,r,C,o⟩:=zX x;unfold hA at c;split at c
 ·grind [Es]
 generalize jx ic.nY (qT h) E (ox h.op)=b at c;cases z:kx e b with
 |false=>grind
 |true=>
 rw[z] at c;simp only[cond_true] at c;rw[uS] at c;obtain⟨l,a,m⟩:=bP.1 c;cases B:l.keep.all (λs=>!bU s.1 b) with
 |false=>grind
 |true=>
 rw[B] at m;cases m;have d:gh e b (.ref id (i::f))=.ref id (i::f)\/gh e b (.ref id (i::f))=.dead:=by
  rw[AW (by grind)];rcases j1 e b (.ref id (i::f)) with⟨s,K,p,_⟩|⟨p,_⟩|⟨p,_⟩
  ·cases p
  ·grind
  grind
 rcases d with d|d
 ·obtain⟨F,_,G⟩:=Es (g:=λk=>gh e b (E k)) q r C (by show gh e b (E k)=_;rw[o];exact d) a;refine⟨F,?_⟩;show ai l.put id=_;rw[G,j3];have J:id∉b:=λI=>by
   grind [eN,List.all_eq_true]
  grind
 exfalso;unfold aj at a;cases A:h.dst with
 |none=>grind
 |some v=>
  rw[A] at a;simp only at a;cases D:eZ ic.n ic.pin v with
  |false=>grind
  |true=>
  rw[D] at a;simp only[cond_true,q,r] at a;split at a
  case h_2=>cases a
  rename_i M P t u w H;cases w;cases y:Nat.beq t u with
  |false=>grind
  |true=>
  rw[y] at a;simp only[cond_true,o,d,k2,rc,lM] at a;grind
section
variable {ic:eQ} {D:Array Oper} {G C:Nat->cP}
theorem x5.ok {e:Option (Nat×ah)} {a:cL} (c:x5 e a=true):∀d b,e=some (d,b)->a=some d:=by
 intro d b g;subst g;cases a with
 |none=>cases c
 |some f=>rw[dU (show Nat.beq d f=true from c)]
theorem Ey {e:cP} {c:Oper} {d:ba->Option a} {f:a} (j:x6 ic y e i c d=some f):∃b,hA ic (aE i.g) i.h c some=some b/\nW y e (aE i.g) c b=true/\d b=some f:=by unfold x6 at j;grind [Option.bind_eq_some_iff,Lv]
def jM (b:cP) (a:ah):Prop:=(∀id∈a.ids,id∈b)\/(∃id,a=.ref id []/\id+500000∈b)\/∃id c,nK a=some (id,c)/\id<500000/\id+1000000*c∈b/\∀d∈a.ids,d=id\/d∈b
theorem pv.ok (a:pv g d=true):∃id b,nK d=some (id,b)/\id<500000/\id+1000000*b∈g/\∀c∈d.ids,c=id\/c∈g:=by
 unfold pv at a;split at a
 case h_2=>cases a
 rename_i id b e;simp only[a2] at a;refine⟨id,b,e,ek a.1,eN.1 a.2.1,λc f=>?_⟩;simp_all [dU,eN,gE,et]
theorem mi.ok (a:mi g d=true):∃id,d=.ref id []/\id+500000∈g:=by unfold mi at a;grind [eN]
theorem jM.ok {c:cP} {b:ah} (a:(ml b.ids c||mi c b)=true):jM c b:=by
 rcases gE _ _▸a with a|a
 ·exact .inl (ml.ok a)
 exact .inr (.inl (mi.ok a))
theorem jM.PC (a:(ml d.ids g||(mi g d||pv g d))=true):jM g d:=by
 simp only[gE] at a;rcases a with a|a|a
 ·exact .inl (ml.ok a)
 ·exact .inr (.inl (mi.ok a))
 exact .inr (.inr (pv.ok a))
theorem EO (a:sx j=some b):1<=b:=by unfold sx at a;grind
theorem KY {id:Nat} (a:nK d=some (id,b)):1<=b:=by
 unfold nK at a;split at a
 ·split at a
  ·rename_i c;cases a;exact EO c
  grind
 ·split at a
  ·rename_i c;cases a;exact EO c
  grind
 ·grind
 grind
def Db (e:Op) (c:cP) (b:ah):Prop:=
 (∃f d g a,e=.extract f d/\b=.dh g/\g[d]?=some a/\pE a=true/\jM c a)\/
 ((∀f d,e≠.extract f d)/\wz b=true/\jM c b/\((∀id∈b.ids,id∈c\/∃a,1<=a/\id<500000/\id+1000000*a∈c)\/sD e=true))
theorem lh.ok {h:Op} {f:cP} {e:ah} (a:lh h f e=true):Db h f e:=by
 unfold lh at a;split at a
 ·rename_i d b;split at a
  case h_2=>cases a
  rename_i q;split at a
  case h_2=>cases a
  rename_i c o;rw[a2] at a;exact .inl ⟨d,b,q,c,rfl,rfl,o,a.1,.ok a.2⟩
 rename_i p;simp only[a2,gE] at a;refine .inr ⟨λd b i=>p d b i,a.1,?_⟩;rcases a.2 with a|⟨a,j⟩|a
 ·exact⟨.inl (ml.ok a),.inl λb g=>.inl (ml.ok a b g)⟩
 ·exact⟨.inr (.inl (mi.ok j)),.inr a⟩
 obtain⟨id,c,k,l,m,n⟩:=pv.ok a;refine⟨.inr (.inr ⟨id,c,k,l,m,n⟩),.inl λb g=>?_⟩;grind
theorem nW.ok {i b:cP} {j:Operand->ah} {g:Oper} {c:ba} (a:nW i b j g c=true):(∀d f,c.d=some (d,f)->g.dst=some d)/\(∀l∈g.op.operands,Db g.op i (j l))/\(∀id∈c.S,id<500000/\(id∈b/\(id+500000∈b\/iK c.keep (.ref id [])=true)\/id+1500000∈b))/\(∀h∈c.put,h.1<500000/\(h.1∈b\/h.1+1500000∈b))/\(∀d f,c.d=some (d,f)->jM i f)/\(∀e∈b,1000000<=e->∃id k,oU j g=some (id,k)/\e %1000000=id+500000/\id<500000/\yZ k (e/1000000)=true):=by
 unfold nW at a;simp only[a2] at a;obtain⟨⟨⟨⟨m,t⟩,n⟩,o⟩,u,p⟩:=a;refine⟨x5.ok m,λl y=>?_,λid q=>?_,λh s=>?_,λd f w=>?_,λe r x=>?_⟩
 ·grind [lh.ok,List.all_eq_true]
 ·have:=et.1 n id q;simp_all [ek,eN,a2,gE]
 ·have:=et.1 o h s;simp_all [ek,eN,a2,gE]
 ·grind [jM.PC]
 have:=et.1 p e r;rw[gE] at this;rcases this with a|a
 ·have:e<1000000:=ek a;omega
 split at a
 case h_2=>cases a
 rename_i id k v;simp only[a2] at a;grind [Nat.eq_of_beq_eq_true,Nat.le_of_ble_eq_true]
def nF (d:cP) (a c:ah):Prop:=(wz a=true->jM d a->c=a)/\∀f,a=.dh f->∃g,c=.dh g/\∀(e:Nat) (b:ah),f[e]?=some b->pE b=true->jM d b->g[e]?=some b
def nF.refl (a:t=d):nF g d t:=⟨λ_ _=>a,λc b=>⟨c,by rw[a,b],λ_ _ a _ _=>a⟩⟩
theorem nF.lh {a:cP} {h:Op} {c d:ah} (e:nF a c d) (g:lh h a c=true):hX.lh h a d=true:=by
 rcases lh.ok g with⟨r,p,k,l,i,b,f,j,n⟩|⟨i,b,f,j⟩
 ·obtain⟨q,m,o⟩:=e.2 k b;grind [hX.lh]
 rw[e.1 b f];exact g
theorem Lw {ic:eQ} {a:List ah} (k:h.op=.extract m b) (j:hA ic E e h some=some p) (c:E m=.dh L) (f:Y m=.dh a) (g:L[b]?=some d) (i:a[b]?=some d):hA ic Y P h some=some p:=by simp_all [hP,eD,yh,aj,jx,qT,ox,hA]
theorem Ly {ic:eQ} (a:sD h.op=true) (c:hA ic E e h some=some p) (d:∀b∈h.op.operands,E b=Y b):hA ic Y P h some=some p:=by
 unfold sD at a;split at a
 ·simp_all [hP,eD,aj,jx,qT,ox,hA,Op.operands]
 grind
theorem Oi (a:.tmp b∈h.op.operands):b∈h.looksAt D:=
 lC _ (List.mem_filterMap.2 ⟨.tmp b,by grind,rfl⟩)
theorem Oj (a:h.guard=some (l,I)) (c:(D[l]?).bind (·.dst)=some b):b∈h.looksAt D:=
 kl _ (by grind)
theorem IZ (k:∀f∈h.looksAt D,nF y (gt i.g f) (gt X.g f)) (a:hT D i h I):hT D X h I:=by
 unfold hT at*;cases c:h.guard with
 |none=>grind
 |some m=>
  obtain⟨l,o⟩:=m;rw[c] at a;simp only at a|-;cases d:(D[l]?).bind (·.dst) with
  |none=>grind
  |some j=>
   rw[d] at a;simp only at a|-;have e:=k j (Oj c d);split at a
   ·rename_i p b;rw[e.1 (by rw[b];rfl) (by rw[b];exact .inl (by simp[ah.ids])),b];exact a
   ·rename_i n b;rw[e.1 (by rw[b];rfl) (by rw[b];exact .inl (by simp[ah.ids])),b];exact a
   grind
theorem fS.congr (e:fS ic D G C b i p) (l:∀c,D[b]?=some c->∀n∈c.looksAt D,nF (G b) (gt i.g n) (gt X.g n)) (v:∀c,D[b]?=some c->∀id,id∈G b\/id∈C b\/c.dst=some id->ai i.h id=ai X.h id) (cs:∀id f,1<=f->id<500000->id+1000000*f∈G b->ai i.h id=ai X.h id):fS ic D G C b X p:=by
 obtain⟨c,w,e⟩:=e;have l:=l c w;have v:=v c w;refine⟨c,w,e.imp (λ⟨r,s,k⟩=>⟨IZ l r,?_⟩) (λ⟨r,s⟩=>⟨IZ l r,s⟩)⟩;obtain⟨a4,f2,bl,f4,f5,O⟩:=nW.ok k;have m:∀a∈c.op.operands,nF (G b) (aE i.g a) (aE X.g a):=by
  intro a d;cases a with
  |tmp n=>exact l n (Oi d)
  |const ad=>exact .refl (by cases ad<;>rfl)
  |func a3=>exact .refl rfl
  |global P=>exact .refl rfl
 constructor
 ·by_cases R:∃a E,c.op=.extract a E
  ·obtain⟨a,E,T⟩:=R;have d:a∈c.op.operands:=(by grind [Op.operands]);rcases f2 a d with⟨I,F,x,f,j,q,y,bs,ce⟩|⟨j,_⟩
   ·rw[T] at j;cases j;obtain⟨d0,ao,d1⟩:=(m a d).2 x q;grind [Lw]
   grind
  have z:∀a∈c.op.operands,wz (aE i.g a)=true/\jM (G b) (aE i.g a)/\((∀id∈(aE i.g a).ids,id∈G b\/∃f,1<=f/\id<500000/\id+1000000*f∈G b)\/sD c.op=true):=λa d=>by
   rcases f2 a d with⟨I,F,x,f,j,_⟩|⟨_,P⟩
   ·grind
   omega
  have u:∀a∈c.op.operands,aE i.g a=aE X.g a:=λa d=>((m a d).1 (z a d).1 (z a d).2.1).symm;by_cases cv:sD c.op=true
  ·grind [Ly]
  have V:∀a∈c.op.operands,∀id∈(aE i.g a).ids,ai i.h id=ai X.h id:=λa d id co=>(by grind);refine Lx s u V (λN Q=>v N (.inr (.inr Q))) (λH A=>?_);rcases(f4 H A).2 with e|e
  ·grind
  obtain⟨id,o,J,ap,av,_⟩:=O _ e U;have:=(f4 H A).1;obtain⟨am,Z,a,an,Y,ao,K,L,_,M⟩:=zX J;grind [List.mem_singleton,pA,ah.ids]
 unfold nW at*;have:(c.op.operands.toList.all λa=>lh c.op (G b) (aE X.g a))=true:=(by simp only[a2] at k;rw[et];intro a d;exact(m a (by grind)).lh (et.1 k.1.1.1.2 a d));have ci:∀id o,oU (aE i.g) c=some (id,o)->oU (aE X.g) c=some (id,o):=λid o u=>by
  obtain⟨am,Z,a,an,Y,ao,K,L,a0,M⟩:=zX u;have B:a∈c.op.operands:=(by grind [pA]);have ds:aE X.g a=aE i.g a:=by
   rcases f2 a B with⟨I,F,x,f,j,_⟩|⟨_,q,y,_⟩
   ·grind
   exact(m a B).1 q y
  grind [oU]
 have dl:Cb (C b) (aE X.g) c=true:=by
  simp only[a2] at k;have t:=k.2.2;unfold Cb at t|-;rw[et] at t|-;intro W S;have:=t W S;rw[gE] at this|-;refine this.imp (λe=>e) (λe=>?_);split at e
  case h_2=>cases e
  grind
 grind
theorem fS.x7 (g:fS ic D G C b i p) {r:Oper} (F:D[b]?=some r):(∀f c,p.d=some (f,c)->r.dst=some f)/\(∀id∈p.S,id<500000/\(id∈C b/\(id+500000∈C b\/iK p.keep (.ref id [])=true)\/id+1500000∈C b))/\(∀k∈p.put,k.1<500000/\(k.1∈C b\/k.1+1500000∈C b))/\(∀f c,p.d=some (f,c)->jM (G b) c)/\(∀id,id<500000->id+1500000∈C b->ai (p.app i).h id=ai i.h id)/\(∀id a e,id∈p.S->id<500000->id+1000000*a+500000∈C b->1<=a->nK e=some (id,a)->(∀q∈e.ids,q=id\/q∉p.S)->hn p.S p.keep e=true):=by
 obtain⟨L,n,g⟩:=g;rw[F] at n;cases n;rcases g with⟨_,x,g⟩|⟨_,f,A,_,rfl⟩
 ·obtain⟨u,f2,v,f4,f5,w⟩:=nW.ok g;refine⟨u,v,f4,f5,λid B m=>?_,λid a e l B m K z E=>?_⟩
  ·grind [ba.oV,Ew]
  obtain⟨o,M,s,H,I,J⟩:=w _ m U;obtain rfl:o=id:=U;obtain⟨y,_⟩:=Ew s x;rw[y];refine Q3 ?_ z E;have:(o+1000000*a+500000)/1000000=a:=U;grind
 refine⟨λt c j=>?_,by simp[tg],by simp[tg],λt c j=>?_,λid _ _=>rfl,λid a e l=>by cases l⟩
 ·cases j;exact A
 cases j;exact .inl (by simp[ah.ids])
structure tQ (f S:cP) (keep:List (Nat×List aM)):Prop where
 a:∀id∈S,id∉f
 b:∀id∈S,id+500000∈f->iK keep (.ref id [])=true
 c:∀id∈S,∀c v,1<=c->id<500000->id+1000000*c∈f->nK v=some (id,c)->(∀j∈v.ids,j=id\/j∉S)->hn S keep v=true
theorem yx (b:cP) (c:List (Nat×List aM)) (a:ah):dj b c a=.dead\/dj b c a=a:=by grind [hn,dj]
theorem Bi (b:pE (dj g f d)=true):dj g f d=d:=by
 rcases yx g f d with a|a
 ·rw[a] at b;cases b
 omega
theorem Bh (a:∀id∈d.ids,id∉g):dj g f d=d:=by grind [eN,List.any_eq_false,zv,id,ah.dB]
theorem Nv (a:∀id∈d.ids,id∉g):dI g f d=d:=by grind [eN,List.any_eq_false,Tj,id,ah.dB]
theorem Fz (e:jM y d) (i:tQ y g f):dj g f d=d:=by
 rcases e with e|⟨id,rfl,e⟩|⟨id,o,k,p,q,l⟩
 ·exact Bh λid s h=>i.a id h (e id s)
 ·by_cases h:id∈g
  ·unfold dj;rw[show hn g f (.ref id [])=iK f (.ref id []) from rfl,i.b id h e];simp
  grind [Bh,List.mem_singleton,ah.ids]
 by_cases h:id∈g
 ·unfold dj;rw[i.c id h o d (KY k) p q k (λn t=>(l n t).imp (λe=>e) (λe h=>i.a n h e))];simp
 exact Bh λm r u=>by
  rcases l m r with j|j
  ·grind
  exact i.a m u j
theorem va (b:jM y d) (e:tQ y g f):dI g f d=d:=by
 cases d with
 |dh k=>
  rcases b with b|⟨id,c,_⟩|⟨id,j,c,_⟩
  ·exact Nv λid h i=>e.a id i (b id h)
  ·cases c
  cases c
 |_=>exact Fz b e
theorem Fy (a:cP) (d:List (Nat×List aM)) (b:cP) (e:List (Nat×List aM)) (c:ah):dj a d (dj b e c)=dj b e (dj a d c):=by grind [yx]
theorem Fw (b:∀a,d≠.dh a):dI g f d=dj g f d:=by
 cases d with
 |dh a=>grind
 |_=>rfl
theorem yw (b:cP) (d:List (Nat×List aM)) (c:cP) (e:List (Nat×List aM)) (a:ah):dI b d (dI c e a)=dI c e (dI b d a):=by
 by_cases g:∃f,a=.dh f
 ·obtain⟨f,rfl⟩:=g;simp_all [congrArg,hu,Fy,nB,dI]
 grind [yx,Fw,Fy]
theorem Nx (l d:cP) (e:List (Nat×List aM)) (b:ah):nF l (dI d e b) b:=by
 by_cases j:∃a,b=.dh a
 ·obtain⟨a,rfl⟩:=j;refine⟨λc _=>?_,λr m=>⟨a,rfl,λq o p i _=>?_⟩⟩
  ·simp only[dI] at c|-;have c:∀g∈a.map (dj d e),pE g=true:=et.1 c;congr 1;rw[hu (λg n=>Bi (c _ (b0.2 ⟨g,n,rfl⟩))),List.map_id']
  simp only[dI,ah.dh.injEq] at m;grind [Bi,Option.map_eq_some_iff]
 have i:∀a,b≠.dh a:=λa f=>j ⟨a,f⟩;rw[Fw i];have h:∀a,dj d e b≠.dh a:=λa f=>(by grind [yx]);refine⟨λc _=>?_,λa f=>absurd f (h a)⟩;have:pE (dj d e b)=true:=by
  generalize dj d e b=k at c h;cases k with
  |dh a=>grind
  |_=>exact c
 grind [Bi]
theorem Ny (a:ah) (d:tQ y g f):nF y a (dI g f a):=by refine⟨λ_ c=>va c d,λk b=>?_⟩;subst b;refine⟨_,rfl,λj e h _ i=>?_⟩;grind [Fz]
def DF (e:∀a c,p.d=some (a,c)->a≠b):gt (p.app i).g b=dI p.S p.keep (gt i.g b):=by
 rw[ba.qj];cases f:p.d with
 |none=>rfl
 |some h=>obtain⟨a,c⟩:=h;simp only;rw[ag (e a c f)]
def NT {c:List (Nat×a)} {id:Nat} (d:∀b∈c,b.1≠id):ai c id=none:=by
 induction c with
 |nil=>rfl
 |cons b c f=>
  obtain⟨g,h⟩:=b;rw[bv,ag (d (g,h) ab),f (λb e=>d b (by simp[e]))]
def DG {id:Nat} (a:id∉p.S) (b:∀c∈p.put,c.1≠id):ai (p.app i).h id=ai i.h id:=by rw[ba.oV,ag a,NT b];rfl
def o8 (b c:cP):Bool:=b.all λa=>!(bU a c)
theorem o8.ok (b:o8 g y=true):∀a∈g,a∉y:=λa c d=>by have:=et.1 b a c;rw[eN.2 d] at this;cases this
def dl (b:Oper):cP:=match b.dst with
 |some a=>[a]
 |none=>[]
def sN (a:h.dst=some b):b∈dl h:=by unfold dl;rw[a];simp
def o9 (b c:cP):Bool:=b.all λa=>Nat.ble 1000000 a||!(bU a c)
theorem o9.ok (a:o9 g y=true):∀b∈g,b<1000000->b∉y:=λb c e d=>by
 have:=et.1 a b c;rw[eN.2 d,gE] at this;rcases this with a|a
 ·have:=ek a;omega
 cases a
def n0 (e d f b:cP):Bool:=(b.all λa=>Nat.blt a 1000000||(!(bU (a %1000000-500000) e)&&(!(bU (a %1000000-500000) d)&&!(bU (a %1000000-500000) f))))&&d.all λc=>Nat.blt c 1000000||(!(bU (c %1000000) b)&&(!(bU (c %1000000+1500000) b)||bU (c+500000) b))
theorem n0.ok {d i:cP} (a:n0 d y i g=true):(∀id,id<500000->id+1500000∈g->id∉d/\id∉y/\id∉i)/\∀id b,1<=b->id<500000->id+1000000*b∈y->id∉g/\(id+1500000∈g->id+1000000*b+500000∈g):=by
 unfold n0 at a;rw[a2] at a;have e:∀{f:Nat} {h:cP},(!(bU f h))=true->f∉h:=λ{f h} a c=>(by rw[eN.2 c] at a;cases a);constructor
 ·intro id k c;have:=et.1 a.1 _ c;rw[gE] at this;rcases this with a|a
  ·have:id+1500000<1000000:=ek a;omega
  rw[(U:(id+1500000) %1000000-500000=id)] at a;simp only[a2] at a;exact⟨e a.1,e a.2.1,e a.2.2⟩
 intro id b l k c;have:=et.1 a.2 _ c;rw[gE] at this;rcases this with a|a
 ·have:id+1000000*b<1000000:=ek a;omega
 rw[(U:(id+1000000*b) %1000000=id)] at a;simp only[a2,gE] at a;refine⟨e a.1,λj=>?_⟩;rcases a.2 with a|a
 ·exact absurd j (e a)
 exact eN.1 a
def qr (D:Array Oper) (G C:Nat->cP) (a b:Nat):Bool:=
 match D[a]?,D[b]? with
 |some d,some c=>d.apart D c&&o9 (C b) (dl d++(G a++C a))&&o9 (C a) (dl c++G b)&&(n0 (dl d) (G a) (C a) (C b)&&n0 (dl c) (G b) (C b) (C a))
 |_,_=>false
def fS.sJ (a:fS ic D G C b i p) {id:Nat} (m:500000<=id):ai (p.app i).h id=ai i.h id:=by obtain⟨k,c,j⟩:=a;have a:fS ic D G C b i p:=⟨k,c,j⟩;obtain⟨_,d,e,_⟩:=a.x7 c;exact DG (λf=>by have:=(d id f).1;omega) (λl g p=>by have:=(e l g).1;omega)
def fS.py (d:fS ic D G C b i p) {id:Nat} (e:id∉C b):ai (p.app i).h id=ai i.h id:=by
 obtain⟨o,f,n⟩:=d;have d:fS ic D G C b i p:=⟨o,f,n⟩;obtain⟨_,g,j,_,k,_⟩:=d.x7 f;by_cases c:id<500000/\id+1500000∈C b
 ·exact k id c.1 c.2
 refine DG (λl=>?_) (λq m p=>?_)
 ·obtain⟨ao,a⟩:=g id l;rcases a with a|a
  ·exact e a.1
  exact c ⟨ao,a⟩
 subst p;obtain⟨ao,a⟩:=j q m;rcases a with a|a
 ·exact e a
 exact c ⟨ao,a⟩
theorem fS.swap {e:ba} (m:qr D G C l b=true) (o:fS ic D G C l i e) (B:fS ic D G C b (e.app i) p):fS ic D G C b i p/\fS ic D G C l (p.app i) e/\hM (p.app (e.app i)) (e.app (p.app i)):=by
 unfold qr at m;split at m
 case h_2=>cases m
 rename_i ap an ad Z;simp only[a2] at m;obtain⟨⟨⟨cv,J⟩,K⟩,d0,d1⟩:=m;have J:=o9.ok J;have K:=o9.ok K;obtain⟨co,V⟩:=n0.ok d0;obtain⟨cs,W⟩:=n0.ok d1;obtain⟨bl,bs,ce⟩:=Oper.apart_spec cv;obtain⟨a3,T,eq,ex,fa,a4⟩:=o.x7 ad;obtain⟨i1,N,d5,d6,d7,am⟩:=B.x7 Z;have d9:∀q∈an.looksAt D,gt (e.app i).g q=dI e.S e.keep (gt i.g q):=λq A=>DF λj w z y=>bl j (a3 j w z) (y▸A);have d8:∀q∈ap.looksAt D,gt (p.app i).g q=dI p.S p.keep (gt i.g q):=λq A=>DF λj w z y=>ce j (i1 j w z) (y▸A);have L:∀j H t I,p.d=some (j,H)->e.d=some (t,I)->j≠t:=λj H t I z dl y=>bs t (a3 t I dl) (y▸i1 j H z);have E:∀id,id<1000000->id∈G l\/id∈C l\/ap.dst=some id->id∉C b:=λid h c s=>J id s h (by
  rcases c with c|c|c
  ·simp[c]
  ·simp[c]
  simp[sN c])
 have a0:∀id,id<1000000->id∈G b\/an.dst=some id->id∉C l:=λid h c s=>K id s h (by
  rcases c with c|c
  ·simp[c]
  simp[sN c])
 have d4:∀id,id<1000000->id∈C b->id∉C l:=λid h c s=>E id h (.inr (.inl s)) c;have em:tQ (G b) e.S e.keep:=by
  refine⟨λid k f=>?_,λid k f=>?_,λid k r R m n f M x=>?_⟩
  ·obtain⟨ao,a⟩:=T id k;rcases a with a|a
   ·exact a0 id U (.inl f) a.1
   exact(cs id ao a).2.1 f
  ·obtain⟨ao,a⟩:=T id k;rcases a with a|a
   ·exact a.2.resolve_left (a0 _ U (.inl f))
   exact a4 id 1 (.ref id []) k ao (by rw[(U:id+1000000*1+500000=id+1500000)];exact a) (aZ _) rfl (λd2 x=>.inl (by simpa[ah.ids] using x))
  obtain⟨_,a⟩:=T id k;obtain⟨av,Q⟩:=W id r m n f;rcases a with a|a
  ·exact absurd a.1 av
  exact a4 id r R k n (Q a) m M x
 have el:tQ (G l) p.S p.keep:=by
  refine⟨λid k f=>?_,λid k f=>?_,λid k r R m n f M x=>?_⟩
  ·obtain⟨ao,a⟩:=N id k;rcases a with a|a
   ·exact E id U (.inl f) a.1
   exact(co id ao a).2.1 f
  ·obtain⟨ao,a⟩:=N id k;rcases a with a|a
   ·exact a.2.resolve_left (E _ U (.inl f))
   exact am id 1 (.ref id []) k ao (by rw[(U:id+1000000*1+500000=id+1500000)];exact a) (aZ _) rfl (λd2 x=>.inl (by grind [ah.ids]))
  obtain⟨_,a⟩:=N id k;obtain⟨av,Q⟩:=V id r m n f;rcases a with a|a
  ·grind
  exact am id r R k n (Q a) m M x
 have v:fS ic D G C b i p:=by
  refine B.congr (λO u q A=>?_) (λO u id n=>?_) (λid r m n f=>?_)
  ·grind [Nx]
  ·rw[Z] at u;cases u;rcases bi id 500000 with h|h
   ·refine o.py ?_;rcases n with c|c|c
    ·grind
    ·grind
    grind
   exact o.sJ h
  exact o.py (W id r m n f).1
 have F:fS ic D G C l (p.app i) e:=by
  refine o.congr (λO u q A=>?_) (λO u id n=>?_) (λid r m n f=>?_)
  ·grind [Ny]
  ·rw[ad] at u;cases u;rcases bi id 500000 with h|h
   ·exact(v.py (E id U n)).symm
   exact(v.sJ h).symm
  exact(v.py (V id r m n f).1).symm
 refine⟨v,F,?_,λid=>?_⟩
 ·intro q;rw[ba.qj p,ba.qj e (p.app i),ba.qj e i,ba.qj p i];cases ds:e.d with
  |none=>
   cases X:p.d with
   |none=>grind [yw]
   |some P=>
    obtain⟨j,w⟩:=P;simp only;split
    ·grind [va]
    grind [yw]
  |some d3=>
   obtain⟨t,ci⟩:=d3;cases X:p.d with
   |none=>
    simp only;split
    ·grind [va]
    grind [yw]
   |some P=>
    obtain⟨j,w⟩:=P;have L:j≠t:=L j w t ci X ds;simp only;by_cases o:j=q
    ·subst o;rw[ak rfl,ag (Ne.symm L),ak rfl];grind [va]
    rw[ag o,ag o];split
    ·grind [va]
    grind [yw]
 rcases bi id 500000 with h|h
 ·by_cases s:id∈C b
  ·have Y:=d4 id U s;rw[F.py Y,ba.oV p,ba.oV p,o.py Y]
  rw[B.py s,ba.oV e,ba.oV e,v.py s]
 rw[B.sJ h,o.sJ h,F.sJ h,v.sJ h]
def fS.seq (a:hM i X) (c:fS ic D G C b i p):fS ic D G C b X p:=
 c.congr (λ_ _ d _=>.refl (a.g d).symm) (λ_ _ id _=>a.h id) (λid _ _ _ _=>a.h id)
def kX.seq:∀{c:cP} {d e f:aA},hM d e->kX ic D G C c d f->kX ic D G C c e f
 |[],_,_,_,a,h=>a.symm.trans h
 |_::_,_,_,_,a,⟨b,g,i⟩=>⟨b,g.seq a,kX.seq (a.app b) i⟩
theorem kX.front {g:Nat} {h:cP}:∀{b:cP} {a d:aA},(∀x∈b,qr D G C x g=true)->kX ic D G C (b++g::h) a d->∃c,fS ic D G C g a c/\kX ic D G C (b++h) (c.app a) d
 |[],a,d,_,⟨c,e,f⟩=>⟨c,e,f⟩
 |x::b,a,d,i,⟨k,e,f⟩=>by obtain⟨j,o,p⟩:=kX.front (λq r=>i q (by grind)) f;obtain⟨l,m,n⟩:=fS.swap (i x ab) e o;exact⟨j,l,k,m,p.seq n⟩
end
end
section
section
variable {ic:eQ} {F:Array Oper} {fV fq:Nat->cP}
def u5 {E:Type} {B:aA->Option E} {D:E}:∀{z:cP} {b:aA},pk ic F fV fq z b B=some D->∃c,kX ic F fV fq z b c/\B c=some D
 |[],b,a=>⟨b,hM.refl b,a⟩
 |i::z,b,a=>by
  simp only[pk] at a;split at a
  ·cases a
  rename_i s r;split at a
  ·rename_i o;obtain⟨f,v,w,x⟩:=Ey a;obtain⟨c,k,l⟩:=u5 x;exact⟨c,⟨f,⟨s,r,.inl ⟨by unfold hT;rw[o],v,w⟩⟩,k⟩,l⟩
  rename_i J A o;split at a
  case h_2=>cases a
  rename_i q e y C;split at a
  case h_3=>cases a
  case h_2=>
   rename_i K p;cases j:eZ ic.n ic.pin e with
   |false=>rw[j] at a;cases a
   |true=>
   rw[j] at a;obtain⟨c,k,l⟩:=u5 a;refine⟨c,⟨tg e,⟨s,r,.inr ⟨?_,e,C,j,rfl⟩⟩,k⟩,l⟩;unfold hT;rw[o];simp only[y,p]
  rename_i d p;cases j:eZ ic.n ic.pin e with
  |false=>rw[j] at a;cases a
  |true=>
  rw[j] at a;simp only[cond_true] at a;have t:∀u,d=u->hM ⟨(q,.val .bool u)::b.g,b.h⟩ b:=λu m=>⟨λI=>by
   show gt ((q,_)::b.g) I=_;rw[gy];split
   ·rename_i f;rw[<-f,p,m]
   rfl,λ_=>rfl⟩
  split at a
  ·rename_i m;obtain rfl:d=A:=(by simpa using m);obtain⟨f,v,w,x⟩:=Ey a;obtain⟨c,k,l⟩:=u5 x;have G:fS ic F fV fq i ⟨(q,.val .bool d)::b.g,b.h⟩ f:=by
    refine⟨s,r,.inl ⟨?_,v,w⟩⟩;unfold hT;rw[o];simp only[y,(t d rfl).g q,p];simp
   exact⟨c,⟨f,G.seq (t d rfl),k.seq ((t d rfl).app f)⟩,l⟩
  rename_i m;have H:d=!A:=by cases d<;>cases A<;>first|rfl|cases m
  obtain⟨c,k,l⟩:=u5 a;refine⟨c,⟨tg e,⟨s,r,.inr ⟨?_,e,C,j,rfl⟩⟩,k.seq ((t _ H).app (tg e))⟩,l⟩;unfold hT;rw[o];simp only[y,p];exact m
structure iV where
 i:Nat
 d:cP
 ai:cP
 ps:cP
 fV:cP
 fq:cP
def pc:cP->cP->Bool
 |[],[]=>true
 |a::c,b::d=>Nat.beq a b&&pc c d
 |_,_=>false
def mU:∀{c d:cP},pc c d=true->c=d
 |[],[],_=>rfl
 |a::c,e::d,b=>by simp only[pc,a2] at b;rw[dU b.1,mU b.2]
 |[],_::_,b=>by cases b
 |_::_,[],b=>by cases b
def m8 (F:Array Oper) (fV fq:Nat->cP) (a:iV):Bool:=match F[a.i]? with
 |some b=>pc (dl b) a.d&&pc (b.looksAt F) a.ai&&pc (m3 F a.i) a.ps&&pc (fV a.i) a.fV&&pc (fq a.i) a.fq
 |none=>false
def Af (a b:iV):Bool:=o8 a.d b.ai&&o8 a.d b.d&&o8 b.d a.ai&&o9 b.fq (a.d++(a.fV++a.fq))&&o9 a.fq (b.d++b.fV)&&(n0 a.d a.fV a.fq b.fq&&n0 b.d b.fV b.fq a.fq)
def K5 {l j:iV} (b:m8 F fV fq l=true) (a:m8 F fV fq j=true) (d:Af l j=true):qr F fV fq l.i j.i=true:=by
 unfold m8 at b a;split at b
 case h_2=>cases b
 rename_i y s;split at a
 case h_2=>cases a
 rename_i x r;simp only[a2] at b a;obtain⟨⟨⟨⟨z,A⟩,E⟩,B⟩,C⟩:=b;obtain⟨⟨⟨⟨i1,t⟩,D⟩,u⟩,v⟩:=a;unfold Af at d;rw[<-mU z,<-mU A,<-mU B,<-mU C,<-mU i1,<-mU t,<-mU u,<-mU v] at d;simp only[a2] at d;obtain⟨⟨⟨⟨⟨f,g⟩,h⟩,n⟩,o⟩,p,q⟩:=d;unfold qr;simp only[s,r,n,o,p,q,Bool.and_true];have f:=o8.ok f;have g:=o8.ok g;have h:=o8.ok h;unfold Oper.apart;rw[a2];constructor
 ·cases e:y.dst with
  |none=>rfl
  |some c=>
   have k:=f c (sN e);have w:=g c (sN e);simp only[a2,Bool.not_eq_true'];refine⟨?_,?_⟩
   ·rw[<-Bool.not_eq_true,List.contains_iff_mem];exact k
   rw[bne_iff_ne];intro m;exact w (sN m)
 cases e:x.dst with
 |none=>rfl
 |some c=>
  have k:=h c (sN e);simp only[Bool.not_eq_true'];rw[<-Bool.not_eq_true,List.contains_iff_mem];exact k
def iE (a b:Nat):Bool:=Nat.beq (Nat.land (Nat.shiftRight a b) 1) 1
def zS (a b:Nat):Nat:=Nat.lor a (Nat.shiftLeft 1 b)
def rY:iE b l=true↔b.testBit l=true:=by
 unfold iE;rw[Nat.testBit_eq_decide_div_mod_eq];show Nat.beq ((b>>>l)&&&1) 1=true↔_;rw[Nat.shiftRight_eq_div_pow,Nat.and_one_is_mod];constructor
 ·intro a;exact decide_eq_true (dU a)
 intro a;rw[of_decide_eq_true a];rfl
def D1 (a:iE (Nat.lor l W) b=true):iE l b=true\/iE W b=true:=by rw[rY] at a|-;rw[rY];have:(l|||W).testBit b=true:=a;rw[Nat.testBit_or] at this;simpa using this
def D0 (a:iE (zS W l) b=true):iE W b=true\/b=l:=by
 rcases D1 a with a|a
 ·exact .inl a
 right;rw[rY] at a;have:(1<<<l).testBit b=true:=a;rw[Nat.shiftLeft_eq,fQ,wi] at this;have:=of_decide_eq_true this;omega
def wE (a:iE 0 b=true):False:=by rw[rY] at a;simp at a
def tV (a:cR):cP->Nat
 |[]=>0
 |p::b=>Nat.lor (zS ((hX.ai a p).getD 0) p) (tV a b)
def Dy {e:cR}:∀{d:cP} {b:Nat},iE (tV e d) b=true->∃p∈d,b=p\/∃c,hX.ai e p=some c/\iE c b=true
 |[],_,a=>(wE a).elim
 |p::d,b,a=>by
  rcases D1 a with a|a
  ·refine⟨p,ab,?_⟩;rcases D0 a with a|a
   ·cases f:hX.ai e p with
    |none=>rw[f] at a;exact(wE a).elim
    |some c=>rw[f] at a;exact .inr ⟨c,rfl,a⟩
   exact .inl a
  obtain⟨i,h,g⟩:=Dy a;exact⟨i,by simp[h],g⟩
def wI (c:Nat):Nat->List iV->cR->List iV->Bool
 |_,_,_,[]=>true
 |dT,d,b,a::f=>
  a.ps.all (λg=>iE dT g)&&(d.all λe=>iE (tV b a.ps) e.i||Af e a)&&!(iE dT a.i)&&Nat.blt a.i c&&wI c (zS dT a.i) (a::d) ((a.i,tV b a.ps)::b) f
def il (a:List iV):cP:=a.map (·.i)
def qo (F:Array Oper) (fV fq:Nat->cP) (a:List iV):Bool:=a.all (m8 F fV fq)&&wI F.size 0 [] [] a&&((List.range F.size).all λb=>bU b (il a))&&Nat.ble a.length F.size
def v7 (F:Array Oper) (a:Nat->Prop):Prop:=∀b,a b->∀c∈m3 F b,a c
def m8.ps {b:iV} (a:m8 F fV fq b=true):m3 F b.i=b.ps:=by
 unfold m8 at a;split at a
 case h_2=>cases a
 simp only[a2] at a;exact mU a.1.1.2
def Aa:∀{t m:List iV} {o:Nat} {v:cR},wI F.size o m v t=true->(∀r∈t,m8 F fV fq r=true)->(∀r∈m,m8 F fV fq r=true)->(∀l,iE o l=true->l∈il m)->(∀l∈il m,iE o l=true)->(∀e u,hX.ai v e=some u->∀c,v7 F c->c e->∀b,iE u b=true->c b)->∀g h p,il t=g++h::p->(∀e∈m3 F h,e∈il m\/e∈g)/\(∀c,v7 F c->(∀e∈m3 F h,c e)->∀b,(b∈il m\/b∈g)->¬c b->qr F fV fq b h=true)/\h∉il m/\h∉g/\h<F.size
 |[],_,_,_,w,_,_,_,_,A,g,h,p,n=>by cases g<;>cases n
 |r::t,m,o,v,w,E,G,d,C,A,g,h,p,n=>by
  simp only[wI,a2,et,Bool.not_eq_true'] at w;obtain⟨⟨⟨⟨P,Q⟩,q⟩,R⟩,S⟩:=w;have z:=E r ab;have y:=m8.ps z;have q:r.i∉il m:=λk=>(by rw[C _ k] at q;cases q);have H:∀c,v7 F c->(∀e∈m3 F r.i,c e)->∀b,iE (tV v r.ps) b=true->c b:=by
   intro c j f b a;obtain⟨e,D,rfl|⟨U,T,a⟩⟩:=Dy a
   ·exact f _ (y▸D)
   exact A e U T c j (f e (y▸D)) b a
  cases g with
  |nil=>
   cases n;refine⟨λe f=>.inl (d _ (P e (y▸f))),λc j f b a x=>?_,q,ab,ek R⟩;rcases a with a|a
   ·obtain⟨J,I,rfl⟩:=b0.1 a;have:=Q J I;rcases gE _ _▸this with d|d
    ·exact absurd (H c j f _ d) x
    exact K5 (G J I) z d
   cases a
  |cons V g=>
   simp only[il,eG,iA,fd] at n;obtain⟨rfl,n⟩:=n;obtain⟨L,M,B,N,O⟩:=Aa S (λb a=>E b (by simp[a])) (λb a=>by
    rcases dw.1 a with rfl|a
    ·exact z
    ·exact G b a) (λl k=>by
    rcases D0 k with k|rfl
    ·exact eH _ (d l k)
    ·exact lD ..) (λl k=>by
    rw[rY];show(o|||(1<<<r.i)).testBit l=true;rw[Nat.testBit_or,gE];rcases dw.1 k with rfl|k
    ·right;rw[Nat.shiftLeft_eq,fQ,wi];simp
    ·left;exact rY.1 (C l k)) (λe u s c j f b a=>by
    rw[bv] at s;split at s
    ·rename_i K;cases s;subst K;exact H c j (j _ f) b a
    exact A e u s c j f b a) g h p n
   refine⟨λe f=>?_,λc j f b a x=>M c j f b ?_ x,λd=>B (eH _ d),λd=>?_,O⟩
   ·rcases L e f with d|d
    ·rcases dw.1 d with rfl|d
     ·exact .inr ab
     exact .inl d
    exact .inr (by simp[d])
   ·rcases a with a|a
    ·exact .inl (eH _ a)
    rcases dw.1 a with rfl|a
    ·exact .inl (lD ..)
    exact .inr a
   rcases dw.1 d with rfl|d
   ·exact B (lD ..)
   exact N d
variable {E:dA} {C:c8}
def fS.wp (k:ic.ac E C) (e:fS ic F fV fq b i p) {c:Act} (j:ev C i c.tmps v) {next:Act->World->Prop} (l:∀a d,a.defers=c.defers->ev C (p.app i) a.tmps d->next a d):wpOp E.P F o b next c v:=by
 obtain⟨z,s,e⟩:=e;obtain⟨m,w,n,f⟩:=id j;unfold wpOp;simp only[s];rcases e with⟨h,q,_⟩|⟨h,x,g,u,rfl⟩
 ·rw[h.ok f,ak rfl];refine .inl (Ex k q c v j _ _ ?_);rintro A a d ⟨y,r,rfl⟩ g t;cases r;exact l a d g t
 rw[h.ok f,ag ab,g];exact l _ v rfl ⟨m,w,n,f.put (eZ.ok k u) (.bu undef)⟩
def left (a:cP) (c:Array Bool):cP:=a.filter λb=>!c.getD b true
def FG {d:Array Bool} {e:cP} (f:left g d=y++b::e) (h:b∉y) (i:b∉e) (j:b<d.size):left g (d.setIfInBounds b true)=y++e:=by
 have:left g (d.setIfInBounds b true)=(left g d).filter λc=>!(c==b):=by
  unfold left;rw[List.filter_filter];refine List.filter_congr λc _=>?_;by_cases a:b=c
  ·subst a;have:(d.setIfInBounds b true).getD b true=true:=(by simp[Array.getD,j]);rw[this];simp
  rw[getD_set_ne true a];have:(c==b)=false:=(by simp;omega);rw[this];simp
 rw[this,f,nx,tE ab];congr 1
 ·exact lA.2 λc a=>by simp;rintro rfl;exact h a
 exact lA.2 λc a=>by simp;rintro rfl;exact i a
def Ce (f:F[b]?=some h):l∈m3 F b↔∃a∈h.after,Region.binds .any a=true/\a.on=l:=by
 unfold m3;rw[f];simp only[b0,gu,Array.mem_toList_iff];constructor
 ·rintro⟨a,⟨c,d⟩,e⟩;exact⟨a,c,d,e⟩
 rintro⟨a,c,d,e⟩;exact⟨a,⟨c,d⟩,e⟩
def J4 (fn:ic.ac E C) {Z:List iV} (em:g=il Z) (B:qo F fV fq Z=true) {t:aA} {ds:List Deferred} (av:∀e j,e.defers=ds->ev C t e.tmps j->o .normal e j):∀(y:Nat) (a:Array Bool) (e:Act) (j:World) (K:aA),a.size=F.size->(left g a).length<=y->v7 F (λd=>a.getD d true=true/\d<F.size)->kX ic F fV fq (left g a) K t->ev C K e.tmps j->e.defers=ds->wpAny E.P .any F o y a e j:=by
 unfold qo at B;simp only[a2,et,hg] at B;obtain⟨⟨⟨fz,B⟩,a0⟩,_⟩:=B;have L:=Aa B fz ab (λd a4=>(wE a4).elim) (by simp[il]) (λQ f6 b=>by cases b);rw[<-em] at L a0;have Y:∀i,i<F.size->i∈g:=λi G=>eN.1 (a0 i G);have d7:∀{a:Array Bool} {d:Nat},a.size=F.size->d<F.size->a.getD d true=true->a.getD d false=true:=(by intro a d f a4 b;have:d<a.size:=U;simpa[Array.getD,this] using b);have cs:∀{a:Array Bool} {i:Nat},a.size=F.size->i∈Region.ready .any F a->i<F.size/\a.getD i true=false/\∃h,F[i]?=some h/\∀c∈h.after,Region.binds .any c=true->a.getD c.on false=true:=(by intro a i f G;obtain⟨u,h,l,n⟩:=mem_ready.1 G;exact⟨(lw.1 l).1,u,h,l,n⟩);have first:∀{a:Array Bool} {i:Nat} {S:cP},a.size=F.size->left g a=i::S->i∈Region.ready .any F a:=by
  intro a i S f H;have J:i∈left g a:=(by rw[H];simp);have fb:i∈g:=(gu.1 J).1;have f0:a.getD i true=false:=(by simpa using(gu.1 J).2);obtain⟨k,s,p⟩:=tD fb;obtain⟨d4,_,_,z,d6⟩:=L k i s p;obtain⟨h,l⟩:∃h,F[i]?=some h:=⟨_,tq d6⟩;refine mem_ready.2 ⟨f0,h,l,λc q D=>?_⟩;have w:c.on∈m3 F i:=(Ce l).2 ⟨c,q,D,rfl⟩;have an:c.on∈k:=by
   rcases d4 _ w with b|b
   ·cases b
   exact b
  have ft:∀m∈k,a.getD m true=true:=by
   intro m x;cases f1:a.getD m true with
   |true=>rfl
   |false=>
    obtain⟨R,dl,ap⟩:=tD x;have:left g a=left R a++m::(left dl a++left (i::s) a):=(by show List.filter _ g=_;rw[p,ap];simp only[left,nx,kV,f1,oG,iA];rfl);rw[H] at this;cases T:left R a with
    |nil=>rw[T] at this;cases this;exact absurd x z
    |cons f7 f4=>
     rw[T] at this;cases this;have:i∈left R a:=(by rw[T];simp);exact absurd (by rw[ap];exact lC _ (gu.1 this).1) z
  have I:c.on<F.size:=(by have:c.on∈g:=(by rw[p];exact lC _ an);obtain⟨cv,d0,d8⟩:=tD this;exact(L cv c.on d0 d8).2.2.2.2);exact d7 f I (ft _ an)
 intro y
 induction y with
 |zero=>
  intro a e j K f W V r M N;have ce:left g a=[]:=List.length_eq_zero_iff.1 U;rw[ce] at r;refine⟨?_,av e j N (M.seq r)⟩;cases X:Region.ready .any F a with
  |nil=>rfl
  |cons i f4=>
   obtain⟨u,n,_⟩:=cs f (i:=i) (by rw[X];simp);have:i∈left g a:=gu.2 ⟨Y i u,by rw[n];rfl⟩;rw[ce] at this;cases this
 |succ y f3=>
  intro a e j K f W V r M N;constructor
  ·intro X;cases H:left g a with
   |nil=>rw[H] at r;exact av e j N (M.seq r)
   |cons i S=>
    have:=first f H
    rw[X] at this;cases this
  intro i G;obtain⟨u,n,h,l,am⟩:=cs f G;have J:i∈left g a:=gu.2 ⟨Y i u,by rw[n];rfl⟩;obtain⟨k,s,p⟩:=tD (Y i u);obtain⟨_,d5,_,z,_⟩:=L k i s p;have a3:i∉s:=(by intro J;obtain⟨d1,d2,el⟩:=tD J;have:=(L (k++i::d1) i d2 (by rw[p,el];simp)).2.2.2.1;exact this ab);have O:left g a=left k a++i::left s a:=(by show List.filter _ g=_;rw[p];simp only[left,nx,kV,n];rfl);have ex:∀m∈left k a,qr F fV fq m i=true:=by
   intro m x;obtain⟨f2,co⟩:=gu.1 x;refine d5 _ V (λQ w=>?_) m (.inr f2) (λx=>by rw[x.1] at co;cases co);obtain⟨c,q,D,rfl⟩:=(Ce l).1 w;have A:=am c q D;have I:c.on<a.size:=by
    cases bi c.on a.size with
    |inl b=>exact b
    |inr b=>simp[Array.getD,Nat.not_lt.2 b] at A
   refine⟨?_,U⟩;simpa[Array.getD,I] using A
  rw[O] at r;obtain⟨c,q,fT⟩:=kX.front ex r;refine q.wp fn M (λd3 f5 fa eq=>f3 _ d3 f5 (c.app K) (by simp[f]) ?_ ?_ ?_ eq (fa.trans N))
  ·rw[FG O (λb=>z (gu.1 b).1) (λb=>a3 (gu.1 b).1) U];rw[O] at W;simp at W|-;omega
  ·intro d ⟨bl,fp⟩ Q w;by_cases bs:i=d
   ·subst bs;obtain⟨c,q,D,rfl⟩:=(Ce l).1 w;have A:=am c q D;have I:c.on<a.size:=by
     cases bi c.on a.size with
     |inl b=>exact b
     |inr b=>simp[Array.getD,Nat.not_lt.2 b] at A
    have v:=getD_set_true (i:=i) A;refine⟨?_,U⟩;have fs:c.on<(a.setIfInBounds i true).size:=(by simpa using I);have aj:∀ad,(a.setIfInBounds i true).getD c.on ad=(a.setIfInBounds i true)[c.on]:=λad=>(by simp only[Array.getD,fs,dif_pos];rfl);rw[aj] at v|-;exact v
   rw[getD_set_ne true bs] at bl;obtain⟨v,d9⟩:=V d ⟨bl,fp⟩ Q w;refine⟨?_,d9⟩;by_cases ci:i=Q
   ·subst ci;rw[n] at v;cases v
   rw[getD_set_ne true ci];exact v
  rw[FG O (λb=>z (gu.1 b).1) (λb=>a3 (gu.1 b).1) U];exact fT
def J.draw (H:E.P.follows .mixedOrders=true) (A:ic.ac E C) {g:aA->Option a} {k:a} {id:Nat} {c:List iV} {h:Exit->aA->Prop} (b:qo F fV fq c=true) (e:pk ic F fV fq (il c) i g=some k) (v:∀l,g l=some k->h .normal l):J E C (.region id F true) i h:=by
 obtain⟨d,r,s⟩:=u5 e;intro p N f x;refine wp_region_any H ?_;have j:left (il c) (Array.replicate F.size false)=il c:=(by refine lA.2 λK z=>?_;unfold qo at b;simp only[a2,et] at b;obtain⟨m,n,u⟩:=tD z;have:=(Aa b.1.1.2 b.1.1.1 ab (λL B=>(wE B).elim) (by simp[il]) (λQ R e=>by cases e) m K n u).2.2.2.2;simp[Array.getD,this]);have I:(il c).length<=F.size:=(by unfold qo at b;simp only[a2] at b;rw[il,gN];exact ek b.2);refine J4 A rfl b (t:=d) (ds:=[]) (λO S y w=>⟨d,v d s,w,y⟩) F.size _ p _ i ab (by rw[j];exact I) ?_ (by rw[j];exact r) ?_ x
 ·intro L ⟨D,G⟩;simp[Array.getD,G] at D
 obtain⟨o,M,q,f⟩:=f;exact⟨o,M,q,f.MW (fw.refl N).drew⟩
end
end
section
inductive zE where
 |none
 |x (l:cP) (kR:kp)
 |ru (l:cP) (kR:kp)
inductive zF where
 |r
 |x (id:Nat) (kR:kp)
 |ru (id:Nat) (kR:kp)
inductive jJ where
 |leaf
 |one (a:jJ)
 |two (j:zE) (a b:jJ)
 |loop (kR:kp) (m:zF) (a:jJ)
 |keep (l:cP) (a:jJ)
 |nY (F:cP) (a:jJ)
 |draw (L:List iV)
def yq:List iV->Nat->cP
 |[],_=>[]
 |r::b,a=>bif Nat.beq r.i a then r.fV else yq b a
def yM:List iV->Nat->cP
 |[],_=>[]
 |r::b,a=>bif Nat.beq r.i a then r.fq else yM b a
def D8 {A:Type} (id:Nat) (b:Exit->aA->Option A):Exit->aA->Option A
 |.exit c,a=>match Nat.beq c id with
  |true=>b .normal a
  |false=>b (.exit c) a
 |e,a=>b e a
def Nr {a:Type} (c:aA->Option a):Exit->aA->Option a
 |.normal,b=>c b
 |_,_=>none
def Ns {b A:Type} (d:aA->Option b) (c:Exit->aA->Option A):Exit->aA->Option (b⊕A)
 |.normal,a=>(d a).map .inl
 |e,a=>(c e a).map .inr
def vJ {A:Type} (c:aA->Option A) (b:Exit->aA->Option A):Exit->aA->Option A
 |.normal,a=>c a
 |e,a=>b e a
def N4 {b A:Type} (d:aA->Option b) (c:Exit->aA->Option A):Exit->aA->Option (b⊕A)
 |.normal,a=>(d a).map .inl
 |e,a=>(c e a).map .inr
def FQ {b c:Type} (e:aA->Option b) (id:Nat) (f:aA->Option c):Exit->aA->Option (b⊕c)
 |.normal,a=>(e a).map .inl
 |.exit d,a=>match Nat.beq d id with
  |true=>(f a).map .inr
  |false=>none
 |_,_=>none
def FR {f g A:Type} (h:aA->Option f) (id:Nat) (i:aA->Option g) (c:Exit->aA->Option A):Exit->aA->Option (f⊕(g⊕A))
 |.normal,a=>(h a).map .inl
 |.exit d,a=>match Nat.beq d id with
  |true=>(i a).map λb=>.inr (.inl b)
  |false=>(c (.exit d) a).map λb=>.inr (.inr b)
 |e,a=>(c e a).map λb=>.inr (.inr b)
def fF:eQ->jJ->Code->aA->(A:Type)->(Exit->aA->Option A)->Option A
 |ic,.leaf,e,b,_,a=>match e with
  |.skip=>a .normal b
  |.exit id=>a (.exit id) b
  |.ret=>a .ret b
  |.region _ o false=>ih ic o (List.range o.size) b (a .normal)
  |_=>none
 |ic,.one d,e,b,A,a=>match e with
  |.block id i=>fF ic d i b A (D8 id a)
  |_=>none
 |ic,.two u d q,e,b,A,a=>match e with
  |.seq i p=>match u with
   |.none=>fF ic d i b A (vJ (λl=>fF ic q p l A a) a)
   |.x j c=>match po b.g j with
    |some f=>(fF {ic with pin:=j++ic.pin,kg:=f++ic.kg} d i b c.den (Nr (proj c))).bind λk=>fF ic q p (qK {ic with pin:=j++ic.pin,kg:=f++ic.kg} c k) A a
    |none=>none
   |.ru j c=>match po b.g j with
    |some f=>(fF {ic with pin:=j++ic.pin,kg:=f++ic.kg} d i b (c.den⊕A) (Ns (proj c) a)).bind λ
     |.inl k=>fF ic q p (qK {ic with pin:=j++ic.pin,kg:=f++ic.kg} c k) A a
     |.inr f=>some f
    |none=>none
  |.cond w i p=>match aE b.g w with
   |.val .bool y=>match y with
    |true=>fF ic d i b A a
    |false=>fF ic q p b A a
   |_=>none
  |_=>none
 |ic,.loop c v d,e,b,A,a=>match e with
  |.loop i=>(proj c b).bind λs=>match v with
   |.r=>(loop (λl=>fF ic d i (qK ic c l) (c.den⊕A) (N4 (proj c) a)) s).bind some
   |.x id m=>(loop (λl=>fF ic d i (qK ic c l) (c.den⊕m.den) (FQ (proj c) id (proj m))) s).bind λk=>a (.exit id) (qK ic m k)
   |.ru id m=>(loop (λl=>fF ic d i (qK ic c l) (c.den⊕(m.den⊕A)) (FR (proj c) id (proj m) a)) s).bind λ
    |.inl k=>a (.exit id) (qK ic m k)
    |.inr f=>some f
  |_=>none
 |ic,.draw n,e,b,_,a=>match e with
  |.region _ o true=>bif qo o (yq n) (yM n) n then pk ic o (yq n) (yM n) (il n) b (a .normal) else none
  |_=>none
 |ic,.nY t d,e,b,A,a=>bif kx b.h t then fF ic d e (ph t b) A a else none
 |ic,.keep j d,e,b,A,a=>match po b.g j with
  |some f=>fF {ic with pin:=j++ic.pin,kg:=f++ic.kg} d e b A a
  |none=>none
section
variable {E:dA} {C:c8} {ic:eQ} {A:Type}
def J.post (t:mz C D) {f:Code} {d:Exit->aA->Prop} (n:J E C f i (λj c=>d j c\/∃(e a:aA),d j e/\e=⟨D++a.g,a.h⟩/\lO a.g c/\lP a.h c/\jA a.g a.h=true)):J E C f i d:=
 λm u r s=>wp_mono (n m u r s) (λ_ _ _ ⟨c,b,k,l⟩=>by
  rcases b with b|⟨e,a,b,rfl,o,p,q⟩
  ·exact⟨c,b,k,l⟩
  exact⟨_,b,(k.ue o p q).kg t,l⟩)
def jz:∀{U:jJ} {C:c8} {ic:eQ} {n:Code} {k:aA} {A:Type} {l:Exit->aA->Option A} {r:A} {m:Exit->aA->Prop},ic.ac E C->fF ic U n k A l=some r->(∀e i,l e i=some r->m e i)->J E C n k m
 |.leaf,C,ic,n,k,A,l,r,m,b,a,d=>by
  simp only[fF] at a;split at a
  ·exact J.skip (d _ _ a)
  ·exact J.exit (d _ _ a)
  ·exact J.ret (d _ _ a)
  ·exact J.region (Na b (λi c=>d _ i c) a)
  cases a
 |.one F,C,ic,n,k,A,l,r,m,b,a,d=>by
  simp only[fF] at a;split at a
  ·refine J.block (jz b a ?_);intro e i c;cases e with
   |exit K=>
    simp only[D8] at c;simp only[z6];split at c
    ·rename_i q;rw[q];exact d _ _ c
    rename_i q;rw[q];exact d _ _ c
   |_=>exact d _ _ c
  cases a
 |.two K F a0,C,ic,n,k,A,l,r,m,b,a,d=>by
  simp only[fF] at a;split at a
  ·rename_i x ap;refine J.seq ?_;split at a
   ·refine jz b a ?_;intro e i c;cases e with
    |normal=>exact jz b c d
    |_=>exact d _ _ c
   ·rename_i B D;split at a
    case h_2=>cases a
    rename_i O I;obtain⟨j,z,a⟩:=bP.1 a;refine J.keep b.2.2.2.2 I (λP t u o v w=>J.post o (jz (ic:={ic with pin:=B++ic.pin,kg:=O++ic.kg}) ⟨b.1,b.2.1.trans t.symm,by rw[u,<-b.2.2.1],⟨b.2.2.2.1.1,v _ b.2.2.2.1.2.1,b.2.2.2.1.2.2.1,w b.2.2.2.1.2.2.2.1,b.2.2.2.1.2.2.2.2⟩,o⟩ z ?_));intro e i c;cases e with
    |normal=>exact .inr ⟨_,_,jz b a d,rfl,pG c⟩
    |_=>cases c
   rename_i B D;split at a
   case h_2=>cases a
   rename_i O I;obtain⟨j,z,a⟩:=bP.1 a;refine J.keep b.2.2.2.2 I (λP t u o v w=>J.post o (jz (ic:={ic with pin:=B++ic.pin,kg:=O++ic.kg}) ⟨b.1,b.2.1.trans t.symm,by rw[u,<-b.2.2.1],⟨b.2.2.2.1.1,v _ b.2.2.2.1.2.1,b.2.2.2.1.2.2.1,w b.2.2.2.1.2.2.2.1,b.2.2.2.1.2.2.2.2⟩,o⟩ z ?_));intro e i c;cases e with
   |normal=>
    obtain⟨ad,g,f⟩:=dE.1 c;cases f;exact .inr ⟨_,_,jz b a d,rfl,pG g⟩
   |_=>
    obtain⟨ad,g,f⟩:=dE.1 c;cases f;cases a;exact .inl (d _ _ g)
  ·rename_i bs x ap;split at a
   ·rename_i ce X;refine J.cond X (λe=>?_) (λe=>?_)
    ·subst e;exact jz b a d
    subst e;exact jz b a d
   cases a
  cases a
 |.loop D Y F,C,ic,n,k,A,l,r,m,b,a,d=>by
  simp only[fF] at a;split at a
  case h_2=>cases a
  rename_i x;obtain⟨bl,V,a⟩:=bP.1 a;obtain⟨L,M,N⟩:=pG V;refine J.post b.2.2.2.2 ?_;cases Y with
  |r=>
   refine J.loop (h6 D) a L M N ?_;intro i Q y s;refine J.kg b.2.2.2.2 (jz b y ?_);intro e R c;cases e with
   |normal=>
    obtain⟨j,g,f⟩:=dE.1 c;cases f;exact⟨rfl,pG g⟩
   |_=>
    obtain⟨j,g,f⟩:=dE.1 c;cases f;cases s;exact⟨(λa=>by cases a),.inl (d _ _ g)⟩
  |x id an=>
   refine J.loop (h6 D) a L M N ?_;intro i Q y s;refine J.kg b.2.2.2.2 (jz b y ?_);intro e R c;cases e with
   |normal=>
    obtain⟨j,g,f⟩:=dE.1 c;cases f;exact⟨rfl,pG g⟩
   |exit K=>
    simp only[FQ] at c;split at c
    ·rename_i q;obtain rfl:=dU q;obtain⟨j,g,f⟩:=dE.1 c;cases f;exact⟨(λa=>by cases a),.inr ⟨_,_,d _ _ s,rfl,pG g⟩⟩
    cases c
   |_=>cases c
  |ru id an=>
   refine J.loop (h6 D) a L M N ?_;intro i Q y s;refine J.kg b.2.2.2.2 (jz b y ?_);intro e R c;cases e with
   |normal=>
    obtain⟨j,g,f⟩:=dE.1 c;cases f;exact⟨rfl,pG g⟩
   |exit K=>
    simp only[FR] at c;split at c
    ·rename_i q;obtain rfl:=dU q;obtain⟨j,g,f⟩:=dE.1 c;cases f;exact⟨(λa=>by cases a),.inr ⟨_,_,d _ _ s,rfl,pG g⟩⟩
    obtain⟨j,g,f⟩:=dE.1 c;cases f;cases s;exact⟨(λa=>by cases a),.inl (d _ _ g)⟩
   |_=>
    obtain⟨j,g,f⟩:=dE.1 c;cases f;cases s;exact⟨(λa=>by cases a),.inl (d _ _ g)⟩
 |.draw G,C,ic,n,k,A,l,r,m,b,a,d=>by
  simp only[fF] at a;split at a
  case h_2=>cases a
  rename_i id Z;cases p:qo Z (yq G) (yM G) G with
  |false=>rw[p] at a;cases a
  |true=>
  rw[p] at a;exact J.draw E.mix b p a (λi c=>d _ i c)
 |.nY S F,C,ic,n,k,A,l,r,m,b,a,d=>by
  simp only[fF] at a;cases p:kx k.h S with
  |false=>rw[p] at a;cases a
  |true=>
  rw[p] at a;intro T am H W;obtain⟨av,a4,a3,H⟩:=H;exact jz b a d T am (H.freeze (kx.ok p)) W
 |.keep B F,C,ic,n,k,A,l,r,m,b,a,d=>by
  simp only[fF] at a;split at a
  case h_2=>cases a
  rename_i j z;refine J.keep b.2.2.2.2 z ?_;intro P t u o v w;exact jz (ic:={ic with pin:=B++ic.pin,kg:=j++ic.kg}) ⟨b.1,b.2.1.trans t.symm,by rw[u,<-b.2.2.1],⟨b.2.2.2.1.1,v _ b.2.2.2.1.2.1,b.2.2.2.1.2.2.1,w b.2.2.2.1.2.2.2.1,b.2.2.2.1.2.2.2.2⟩,o⟩ a d
end
end
end Go.hX
end
