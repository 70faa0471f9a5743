/-
  Parts of the proof: Fw38, Fw22, Fw23, Fw26, Fw27, Fw28, Fw34, Fw35, Fw37, Fw42, Fw45, Fw24, Fw29, Fw31, Fw32, Fw33, Fw30: the framework (Fw), pure forms (Dn), plain laws (Pl, Th), calls of functions (Ok).
-/
import Derived.Test.YtkhcdgkdpjahpaaGreatDoorBcdc04c2c

set_option linter.all false
noncomputable section
namespace Go.hT
variable{a:Type}{b l W:Nat}{c q:TypeId}{d t:ak}{e P:List (Nat×aB)}{f A:ab0}{g:List (Nat×List aV)}{h:Oper}{i X:aH}{j:List aV}{k:List (Nat×ah)}{m w:Operand}{n x:ah}{o:Exit->Act->World->Prop}{r:Array (Nat×Operand)}{s:Program}{u:aH->Prop}{v:World}{y:Nat->abU}{z:Nat->ab0}{B:Nat->Prop}{C:Exit->aH->Prop}{D:List (Nat×ak)}{E:abU}{F Y:Operand->ak}{G:aB}{H:Value}{I:Bool}{L:List ak}{M:List ResultVar}{N:Op}{O:MapEntry}{Q:dd->Nat->Prop}{R:Array Operand}{S:List aB}{T:aV}{V:Array TypeId}
section
def rA:List ak->abX->Option (Nat×List aV)
 |.ref id (c::b)::_,true::_=>some (id,c::b)
 |_::as,_::a=>rA as a
 |_,_=>none
def oF (id:Nat) (a:ak):ak:=bif a.dR [id] then .dead else a
def kV (id:Nat):List ak->abX->List ak
 |.ref _ (_::_)::as,true::_=>.ref id []::as.map (oF id)
 |a::as,_::b=>oF id a::kV id as b
 |as,_=>as.map (oF id)
def jh {a:Type} (c:Nat->a) (d:Nat) (e:a):Nat->a:=λb=>if b=d then e else c b
theorem lv {d:Nat->a} {c:a}:jh d b c b=c:=by simp[jh]
theorem jI {c:Nat->a} {e:a} (d:b≠l):jh c l e b=c b:=by simp[jh,d]
section
variable {E:dY} {C:dA} {st:aH} {A:abS} {w w':World} {I I':Nat->Prop} {rt:Nat->abU} {fp:Nat->ab0}
theorem q5 {id:Nat} (a:Nat):al ((id,G)::del [id] e) a=if id=a then some G else al e a:=by
 rw[bY];split
 ·rfl
 ·rename_i b;rw[j2,if_neg (by simpa usingλc=>b c.symm)]
theorem bE.split (e:bE C st A w I rt fp) {id:Nat} {v:aB} (q:al st.h id=some v) {i:ah} {m:i.den} {r:abU} {j K:ab0} (E:aN (bc I C.B) w i r m j) (u:(fp id).Perm (j++K)):bE C ⟨[],(id,⟨i,m⟩)::del [id] st.h⟩ A w I (jh rt id r) (jh fp id j):=by
 obtain⟨_,H,J⟩:=e.tree id v q;have p:∀a∈j,a∈fp id:=λa b=>u.mem_iff.2 (by simp[b]);have o:∀c d,al ((id,(⟨i,m⟩:aB))::del [id] st.h) c=some d->(c=id/\d=⟨i,m⟩)\/(c≠id/\al st.h c=some d):=λc d f=>by
  rw[q5] at f;split at f
  ·rename_i n;exact .inl ⟨n.symm,(dV f).symm⟩
  ·rename_i n;exact .inr ⟨λx=>n x.symm,f⟩
 refine{e with tree:=?_,dis:=?_,tmp:=λc=>.dead _}
 ·intro c d f;rcases o c d f with⟨rfl,rfl⟩|⟨g,k⟩
  ·rw[lv,lv];exact⟨E,(iJ.1 (u.nodup_iff.1 H)).1,λa b=>J a (p a b)⟩
  ·rw[jI g,jI g];exact e.tree c d k
 ·intro F G d L z D l a b;rcases o F d z with⟨rfl,rfl⟩|⟨g,k⟩<;>rcases o G L D with⟨rfl,rfl⟩|⟨s,t⟩
  ·exact absurd rfl l
  ·rw[lv] at b;rw[jI s];exact e.dis _ _ _ _ q t l a (p a b)
  ·rw[jI g] at b;rw[lv];exactλy=>e.dis _ _ _ _ k q l a b (p a y)
  ·rw[jI g] at b;rw[jI s];exact e.dis _ _ _ _ k t l a b
theorem bG.oF (l:bE C st A w I rt fp) {id:Nat} {q:aB} {i:abU} {j:ab0} {a:ak} {f:Value} (k:bG (bc I C.B) w st.h rt fp a f):bG (bc I C.B) w ((id,q)::del [id] st.h) (jh rt id i) (jh fp id j) (oF id a) f:=by
 unfold hT.oF;cases o:a.dR [id] with
 |true=>exact .dead _
 |false=>
  refine k.rh (λr g n=>⟨n,bU.refl _ _⟩) (λd m p e=>?_);have c:d≠id:=λb=>Gu o d m (by simp[b]);refine⟨?_,jI c,jI c,(l.tree d p e).1,λg _=>bU.refl _ _⟩;rw[q5,if_neg (λb=>c b.symm)];exact e
theorem RR (r:bE C st A w I rt fp) {id:Nat} (F:al st.h id=some G) {y:n.den} {v:Loc} {o:abU} {f:ab0} (D:aP w G.1 none (rt id) (T::j) n v o):∀{d:List ak} {c:abX} {a:abU},hd (bG (bc I C.B) w st.h rt fp) d a->rA d c=some (id,T::j)->hd (bG (bc I C.B) w ((id,⟨n,y⟩)::del [id] st.h) (jh rt id o) (jh fp id f)) (kV id d c) a:=by
 have H:∀{d:List ak} {a:abU},hd (bG (bc I C.B) w st.h rt fp) d a->hd (bG (bc I C.B) w ((id,⟨n,y⟩)::del [id] st.h) (jh rt id o) (jh fp id f)) (d.map (hT.oF id)) a:=by
  intro d
  induction d with
  |nil=>intro a b;cases a with|nil=>trivial|cons=>exact b.elim
  |cons e m q=>intro a b;cases a with|nil=>exact b.elim|cons J a=>exact⟨b.1.oF r,q b.2⟩
 intro d
 induction d with
 |nil=>intro c a _ b;cases c<;>cases b
 |cons e m q=>
  intro c a b i;cases a with
  |nil=>exact b.elim
  |cons J a=>
  cases c with
  |nil=>cases e<;>first|(cases i;done)|(rename_i l g;cases g<;>cases i)
  |cons k c=>
   by_cases p:∃l u g,e=.ref l (u::g)/\k=true
   ·obtain⟨l,u,g,rfl,rfl⟩:=p;simp only[rA,bH,fv,fY] at i;obtain⟨rfl,rfl,rfl⟩:=i;have z:=b.1;cases z with|ref s E=>
    rw[F] at s;cases s;obtain⟨rfl,rfl,rfl⟩:=E.iu D;refine⟨.ref (t:=⟨_,y⟩) (loc:=none) (by rw[q5,if_pos rfl]) ?_,H b.2⟩;rw[lv];exact aP.here
   ·have aj:rA (e::m) (k::c)=rA m c:=by
     cases e<;>first|rfl|(rename_i l g;cases g<;>cases k<;>first|rfl|exact absurd ⟨_,_,_,rfl,rfl⟩ p)
    have x:kV id (e::m) (k::c)=hT.oF id e::kV id m c:=by cases e<;>first|rfl|(rename_i l g;cases g<;>cases k<;>first|rfl|exact absurd ⟨_,_,_,rfl,rfl⟩ p)
    rw[aj] at i;rw[x];exact⟨b.1.oF r,q b.2 i⟩
theorem lJ.Zh (M:bE C st A w I rt fp) {id:Nat} (v:al st.h id=some G) {z:n.den} (ft:db G.1 G.2 j n z) {bB:Loc} {P:abU} (dl:aP w G.1 none (rt id) j n bB P):∃r x,aN (bc I C.B) w n P z r/\(fp id).Perm (r++x)/\∀{w':World} {I':Nat->Prop} {s:ab0} {O:List (Nat×List aV)} {H:List (Nat×aB)} {W:Nat->abU} {J:Nat->ab0} {X:n.den} {u:G.1.den},lJ C ⟨[],(id,⟨n,z⟩)::del [id] st.h⟩ w w' I I' (jh rt id P) (jh fp id r) s O H W J->id∈s->al H id=some ⟨n,X⟩->(id,[])∈O->(∀g∈O,g.2=[])->dH G.1 G.2 j n X u->∃d6 d8,lJ C st w w' I I' rt fp s ((id,j)::O) ((id,⟨G.1,u⟩)::H) d6 d8/\∀k,k≠id->d6 k=W k:=by
 obtain⟨gc,d4,d5⟩:=M.tree id G v;obtain⟨hr,gs,r,x,d9,ed,ek,L,el,em,eq⟩:=xz j (loc:=none) gc (λ_ _ b=>by cases b) d4 (λ_ _ b=>by cases b) (M.notM v) ft;obtain⟨_,rfl,rfl⟩:=dl.iu d9;refine⟨r,x,ed,L,λ{w' I' s O H W J X u} l cv V o ad d1=>?_⟩;have f4:∀a∈r,a∈fp id:=λa c=>L.mem_iff.2 (by simp[c]);have ds:=iJ.1 (L.nodup_iff.1 d4);have Q:∀a,(∃d∈s,∃e,al ((id,(⟨n,z⟩:aB))::del [id] st.h) d=some e/\a∈jh fp id r d)->∃d∈s,∃e,al st.h d=some e/\a∈fp d/\(d=id->a∈r):=by
  rintro a ⟨d,m,e,f,c⟩;by_cases g:d=id
  ·subst g;rw[lv] at c;exact⟨d,m,G,v,f4 a c,λ_=>c⟩
  ·rw[q5,if_neg (λK=>g K.symm)] at f;rw[jI g] at c;exact⟨d,m,e,f,c,λK=>absurd K g⟩
 have E:∀a∈x,a<w.heap.size/\¬∃d∈s,∃e,al ((id,(⟨n,z⟩:aB))::del [id] st.h) d=some e/\a∈jh fp id r d:=λa c=>by
  have N:a∈fp id:=L.mem_iff.2 (by simp[c]);refine⟨(d5 a N).2.2.1,λb=>?_⟩;obtain⟨d,_,e,f,p,D⟩:=Q a b;by_cases g:d=id
  ·exact ds.2.2 a (D g) a c rfl
  ·exact M.dis d id e G f v g a p N
 have ab:∀a∈x,w'.heap[a]?=w.heap[a]?:=λa c=>l.heap a (E a c).1 (λd m e f b=>(E a c).2 ⟨d,m,e,f,b⟩);have ex:∀F a,bc I C.B F a->bU w w' a:=λF a T=>.of_heap (l.heap a (M.ib a (l3 T)) (λd m e f b=>by
  obtain⟨d,_,e,f,p,_⟩:=Q a ⟨d,m,e,f,b⟩;exact M.notM f a p F T))
 obtain⟨_,a3,f8,f9⟩:=l.tree id _ V;obtain⟨y,hc,_,d2,_⟩:=l.keep _ o ⟨n,z⟩ (by rw[q5,if_pos rfl]);simp only[lv] at d2;rw[d2] at a3;have ci:∀a,bU w w' a->p8 w w' bB n.size a:=λa b=>⟨λq _=>(b.1 q).1,λq=>(b.1 q).2,λq=>by rw[(b.1 q).1],b.2⟩;obtain⟨gt,co,f5,_,f7,_,av,_,f6⟩:=em w' (bc I' C.B) P X (J id) u (λF a c=>by cases F;exact l.i a c;exact c.imp (l.i a) (λb=>b)) (by
   rintro a (⟨F,T⟩|c|⟨a0,f2⟩)
   ·exact ci a (ex F a T)
   ·exact ci a (.of_heap (ab a c))
   ·cases f2) a3 (λ_ _=>rfl)
  (λa a0 c2=>by
   have c:a∈x:=by
    rcases el a a0 c2 with⟨_,b,_⟩|b
    ·cases b
    ·exact b
   exact(ek a a0 c2).1.ev (.of_heap (ab a c))) d1
 obtain rfl:=f7 rfl (.inr rfl);have Z:∀a∈co,a∈J id\/a∈x:=λa c=>eH.1 (av.mem_iff.1 c);have ap:∀k e,al H k=some e->∀a∈J k,a∉x:=λk e o a c d0=>by
  rcases((l.tree k e o).2.2.2 a c).2.2 with b|b
  ·exact absurd (E a d0).1 U
  ·exact(E a d0).2 b
 have an:∀k y,al ((id,(⟨G.1,u⟩:aB))::H) k=some y->(k=id/\y=⟨G.1,u⟩)\/(k≠id/\al H k=some y):=λk y o=>by
  rw[bY] at o;split at o
  ·rename_i g;exact .inl ⟨g.symm,(dV o).symm⟩
  ·rename_i g;exact .inr ⟨λK=>g K.symm,o⟩
 have am:∀a,(w.heap.size<=a\/∃d∈s,∃e,al ((id,(⟨n,z⟩:aB))::del [id] st.h) d=some e/\a∈jh fp id r d)->w.heap.size<=a\/∃d∈s,∃e,al st.h d=some e/\a∈fp d:=λa b=>b.imp (λb=>b) (λb=>by
  obtain⟨d,m,e,f,p,_⟩:=Q a b;exact⟨d,m,e,f,p⟩)
 refine⟨jh W id (rt id),jh J id co,⟨l.size,l.os,l.tape,l.output,?_,l.evo,l.i,?_,?_,?_,?_,?_⟩,λk o=>jI o⟩
 ·intro a c fz;refine l.heap a c (λd m e f b=>?_);obtain⟨d,m,e,f,p,_⟩:=Q a ⟨d,m,e,f,b⟩;exact fz d m e f p
 ·intro a c;exact(l.i2 a c).imp (λb=>b) (λb=>⟨b.1,am a b.2⟩)
 ·intro k y o;rcases an k y o with⟨rfl,rfl⟩|⟨p,D⟩
  ·rw[lv,lv];refine⟨.inl cv,f5,?_,λa c=>?_⟩
   ·rw[av.nodup_iff,iJ];exact⟨f8,ds.2.1,λd7 fn a c g=>ap k _ V d7 fn (g▸c)⟩
   ·rcases Z a c with c|c
    ·obtain⟨a4,bd,bl⟩:=f9 a c;exact⟨a4,bd,am a bl⟩
    ·have N:a∈fp k:=L.mem_iff.2 (by simp[c]);refine⟨λm=>?_,hp (E a c).1 l.size,.inr ⟨k,cv,G,v,N⟩⟩;rcases l.i2 a m with b|⟨_,b|b⟩
     ·exact(d5 a N).1 b
     ·exact absurd (E a c).1 U
     ·exact(E a c).2 b
  ·rw[jI p,jI p];obtain⟨ge,a4,bd,bl⟩:=l.tree k y D;refine⟨ge.imp (λb=>b) (λb=>?_),a4,bd,λa c=>?_⟩
   ·have b:al ((id,(⟨n,z⟩:aB))::del [id] st.h) k=none:=b;rw[q5,if_neg (λg=>p g.symm)] at b;exact b
   ·obtain⟨v1,fa,bs⟩:=bl a c;exact⟨v1,fa,am a bs⟩
 ·intro d q gf gi m fT S a c;rcases an d gf m with⟨rfl,rfl⟩|⟨p,D⟩<;>rcases an q gi fT with⟨rfl,rfl⟩|⟨cs,Y⟩
  ·exact absurd rfl S
  ·rw[lv] at c;rw[jI cs];rcases Z a c with c|c
   ·exact l.dis d q _ _ V Y S a c
   ·exactλb=>ap q _ Y a b c
  ·rw[jI p] at c;rw[lv];intro b;rcases Z a b with b|b
   ·exact l.dis d q _ _ D V S a c b
   ·exact ap d _ D a c b
  ·rw[jI p] at c;rw[jI cs];exact l.dis d q _ _ D Y S a c
 ·intro g t e f;rcases dh.1 t with rfl|t
  ·rw[v] at f;cases f;exact⟨⟨G.1,u⟩,by rw[bY,if_pos rfl],rfl,lv,⟨_,dl.ty⟩,f6⟩
  ·by_cases aj:g.1=id
   ·rw[aj,v] at f;cases f;refine⟨⟨G.1,u⟩,by rw[bY,if_pos aj.symm],rfl,by rw[aj];exact lv,⟨G.1,by rw[ad g t];cases G.1<;>rfl⟩,λd3 _ _ _ o=>?_⟩;rw[ad g t,Bp] at o;cases o
   ·obtain⟨v1,fa,bs,v4,gl,CF⟩:=l.keep g t e (by rw[q5,if_neg (λb=>aj b.symm)];exact f);rw[jI aj] at v4 CF;exact⟨v1,by rw[bY,if_neg (λb=>aj b.symm)];exact fa,bs,by rw[jI aj];exact v4,gl,CF⟩
 ·intro g t e f d3 hv hs hi go gv R f1 f0 c1 f3;rcases dh.1 t with rfl|t
  ·rw[v] at f;cases f;refine⟨⟨G.1,u⟩,by rw[bY,if_pos rfl],sE R d1 c1,λce fs=>?_⟩;obtain⟨ar,a3⟩:=eq d3 _ _ _ _ _ R (by exact f1) c1 f0 f3 ce fs;rw[lv];exact⟨av.mem_iff.2 (k4 _ ar),.of_heap (ab ce ar)⟩
  ·rw[ad g t,sD] at R;cases R
theorem dz.sub {s:Oper} {r:List ak} {d W:Array _} (c2:s.op=.call {callee:=.value m,args:=d,argTypes:=W}) (d8:aO st.g m=.dt l r) (bs:s.dst=some b) (bB:C.ok b) (bd:∀(V:abS) (w:World),(callFunc l V).run E.P w=.ok (.enter l V) w) {a:List fX} (a4:p7 E l a S) (d3:nC 0 a=none) (ab:∀j,C.I0 j\/C.B j->j<C.w0.heap.size/\¬C.F0 j) (ad:jL E C.I0 C.w0) {id:Nat} (q:al st.h id=some G) {p:List aV} {v:n.den} (O:db G.1 G.2 (T::p) n v) {H:abX} (d4:rA (d.toList.map (aO st.g)++r) H=some (id,T::p)) (a0:L=kV id (d.toList.map (aO st.g)++r) H) (ap:m1 ((id,⟨n,v⟩)::del [id] st.h) (eF L a) L a) (A:lQ b ⟨[],(id,⟨n,v⟩)::del [id] st.h⟩ L a S=true) (an:id∈eF L a) (am:id∈kO L a) {y':n.den} {z:G.1.den} (cs:al (iy L a++hE b (hj S) 0 S) id=some ⟨n,y'⟩) (d2:dH G.1 G.2 (T::p) n y' z) (o:u ⟨(b,tn b S)::kill (eF L a) ((id,T::p)::uZ (kO L a)) st.g,((id,⟨G.1,z⟩)::(iy L a++hE b (hj S) 0 S))++del (eF L a) st.h⟩):dz E C s st u:=by
 rintro c w ⟨I,rt,fp,e⟩ next eq c1
 obtain⟨i,d7,Z⟩:∃i:abS,c.eval m=.func (.func l) #[] i/\hd (bG (bc I C.B) w st.h rt fp) r i.toList:=by
  have F:=e.aO m;rw[d8] at F;generalize ft:c.eval m=f2 at F;cases F with|dt co ci=>
  exact⟨_,rfl,y1 (by simpa using co) (λU c j D x=>ci U c j D (by simpa using x))⟩
 have a3:hd (bG (bc I C.B) w st.h rt fp) (d.toList.map (aO st.g)++r) (d.toList.map c.eval++i.toList):=C2 (C3 (λm=>e.aO m) _) Z;obtain⟨ed,ek,fz⟩:=e.tree id G q;obtain⟨em,ex,_,_,J,_⟩:=Bb (T::p) (loc:=none) ed (λ_ _ o=>by cases o) ek (λ_ _ o=>by cases o) (e.notM q) O;obtain⟨Y,fT,ar,d9,dl⟩:=lJ.Zh e q O J;have M:=e.split q ar d9;have N:=RR (y:=v) (f:=Y) e q J a3 d4;rw[<-a0] at N;have bl:=M.call N a4 ap A (λ_ _=>by rw[d3];trivial) (M.glob ab ad);have d1:(execOp c.eval s).run E.P w=.ok (.enter l (d.toList.map c.eval++i.toList).toArray) w:=(by have aj:d.map c.eval=(d.toList.map c.eval).toArray:=(by rw[<-Array.toList_map]);have X:(d.toList.map c.eval++i.toList).toArray=(d.toList.map c.eval).toArray++i:=ac;rw[X];simp only[execOp,c2,resolve,aj,Sem.run_bind,d7,Deferred.ofValue,Sem.run_pure,Result.andThen_ok,invoke,Array.empty_append,Array.append_empty];exact bd _ _);unfold Oper.wp;rw[d1];show Calls E.P l _ w _;refine bl.mono ?_;rintro k w' ⟨I',f0,fn,el,rfl,d5,ds⟩;show next (c.put s.dst (ox el)) w'
 rw[bs];obtain⟨f1,fs,d6,d0⟩:=dl d5 an cs (bT.2 ⟨id,am,rfl⟩) (λk ce=>by obtain⟨U,_,rfl⟩:=bT.1 ce;rfl) d2;simp only[lQ,bg,eM] at A;have cv:=h2.ok A.1.2;refine c1 _ _ _ o rfl ⟨I',_,_,(e.bZ d6).put bB (av:=tn b S) (ds _ _ _ (λt R=>?_))⟩;have D:=L2 cv t R;have x:=A.2 t R;have Q:t.1≠id:=λk=>(by rw[k,q5,if_pos rfl] at x;cases x);have K:al ((id,(⟨G.1,z⟩:aB))::(iy L a++hE b (hj S) 0 S)) t.1=some t.2:=(by rw[bY,if_neg (λk=>Q k.symm)];exact D);refine⟨by rw[iR,K];rfl,?_⟩;simp only[dG,K];exact d0 _ Q
end
end
section
def ia:Nat->List fX->List (Nat×ak)
 |_,[]=>[]
 |k,.v b::a=>(k,.val b.1 b.2)::ia (k+1) a
 |k,.m _ _::a=>(k,.ref k [])::ia (k+1) a
 |k,.o _::a=>(k,.ref k [])::ia (k+1) a
 |k,.n::a=>(k,.cv (.slice none 0 0))::ia (k+1) a
 |k,.w _ _ e d _::a=>(k,.view k [] e d)::ia (k+1) a
 |k,.s _ _::a=>ia (k+1) a
 |k,.c f g::a=>(k,.dt f (g.map λb=>.val b.1 b.2))::ia (k+1) a
def iO:Nat->List fX->List (Nat×aB)
 |_,[]=>[]
 |k,.v _::a=>iO (k+1) a
 |k,.m b _::a=>(k,b)::iO (k+1) a
 |k,.o b::a=>(k,b)::iO (k+1) a
 |k,.w e d _ _ _::a=>(k,⟨.osl e,d⟩)::iO (k+1) a
 |k,.c _ _::a=>iO (k+1) a
 |k,.n::a=>iO (k+1) a
 |k,.s _ _::a=>iO (k+1) a
def gp:Nat->List fX->ab0
 |_,[]=>[]
 |k,.m _ _::a=>k::gp (k+1) a
 |k,.w _ _ _ _ _::a=>k::gp (k+1) a
 |k,_::a=>gp (k+1) a
def r2 (a:dA):Option cO->Prop
 |none=>True
 |some (c,g,d)=>c∈a.pin/\(∀h∈d,h∈a.pin)/\∃b e f,a.vs c=.pointer (some ⟨b,e,none⟩)/\b<a.w0.heap.size/\¬a.F0 b/\a.w0.cell? ⟨b,e,none⟩=some (.func (.func g) #[] f)/\f.toList=d.map a.vs
def mS:Option cO->ab0
 |none=>[]
 |some (a,_,b)=>a::b
def qk (j:Program) (e:aH) (a:aB):ResultVar->ab0->Prop
 |.tmp m,c=>match gt e.g m with
  |.val i n=>(⟨i,n⟩:aB)=a/\c=[]
  |.cv f=>hu a.1 f.cells.toList=some a.2/\bL a.1 f.cells.toList=f/\c=[]
  |.ref id d=>c=[id]/\∃b,al e.h id=some b/\db b.1 b.2 d a.1 a.2
  |_=>False
 |.cell l k,c=>dM j a.1 k/\match gt e.g l with
  |.ref id d=>c=[id]/\∃b i,al e.h id=some b/\dO b.1 d=some (.optr i)/\db b.1 b.2 (d++[.deref]) a.1 a.2
  |_=>False
def r0 (b:Program) (d:aH):List ResultVar->List aB->ab0->Prop
 |[],[],a=>a=[]
 |r::f,e::g,a=>e.1.eu=true/\∃i1 c,a=i1++c/\qk b d e r i1/\r0 b d f g c
 |_,_,_=>False
def nR (a:aH):Nat->List fX->Prop
 |_,[]=>True
 |k,.m c l::b=>(gt a.g k=.ref k []/\al a.h k=some ⟨c.1,l⟩/\c.1.eu=true/\p3 c.1=true)/\nR a (k+1) b
 |k,.w i j e d f::b=>(gt a.g k=.view k [] e d/\al a.h k=some ⟨.osl i,f⟩/\(i.eu=true/\e<d)/\f.length=j.length)/\nR a (k+1) b
 |k,_::b=>nR a (k+1) b
def GL (e:Program) (a:List fX) (g:List ResultVar) (f:List aB) (b:Exit) (d:aH):Prop:=
 (b=.normal\/b=.ret)/\∃c,r0 e d g f c/\h2 (gp 0 a++c)=true/\nR d 0 a
section
variable {E:dY}
theorem SD {j:Nat->Prop} {a:abU} (g:hd (vO j B v) S a):bG (bc j B) v e y z (.dt b (S.map λd=>.val d.1 d.2)) (.func (.func b) #[] a.toArray):=by
 have l:=Hj g;refine .dt (by simpa using l.symm) (λf p i c h=>?_);have k:∀{S:List aB} {a:abU} {f:Nat} {d:aB} {i:Value},hd (vO j B v) S a->S[f]?=some d->a[f]?=some i->vO j B v d i:=by
  intro S
  induction S with
  |nil=>intro a f d i _ c;simp at c
  |cons s S o=>
   intro a f d i g c h;cases a with
   |nil=>exact g.elim
   |cons r a=>
    cases f with
    |zero=>simp only[iY,bH] at c h;subst c h;exact g.1
    |succ f=>exact o g.2 (by simpa using c) (by simpa using h)
 rw[eN] at c;obtain⟨d,n,rfl⟩:=eb.1 c;obtain⟨q,rfl,m⟩:=k g n (by simpa using h);exact .val m
theorem HA {r q:Nat->Prop} {w:World}:∀{k:Nat} {d:List fX} {G:abU} {z:c6},kF (vH r q w) d G z->∃(h:Nat->abU) (f:Nat->ab0),(∀id b,al (iO k d) id=some b->k<=id/\(∃x,z[id-k]?=some x/\f id=x)/\aN (bc r q) w b.1 (h id) b.2 (f id))/\(∀a,gt (ia k d) (k+a)=.dead\/∃v,G[a]?=some v/\bG (bc r q) w (iO k d) h f (gt (ia k d) (k+a)) v)/\(∀a,a<k->gt (ia k d) a=.dead)
 |k,[],G,z,p=>⟨λ_=>[],λ_=>[],(λid b p=>by cases p),λa=>.inl rfl,λa _=>rfl⟩
 |k,l::d,[],z,p=>p.elim
 |k,l::d,v::G,[],p=>p.elim
 |k,l::d,v::G,x::z,p=>by
  obtain⟨C,ab⟩:=p;obtain⟨h,f,i1,M,D⟩:=HA (k:=k+1) ab;have L:∀id b,al (iO (k+1) d) id=some b->k<=id/\(∃y,(x::z)[id-k]?=some y/\f id=y)/\aN (bc r q) w b.1 (h id) b.2 (f id):=λid b u=>(by obtain⟨ar,⟨y,e,R⟩,ap⟩:=i1 id b u;exact⟨U,⟨y,by rw[(U:id-k=(id-(k+1))+1),o1];exact e,R⟩,ap⟩);have Q:∀(b:aB) (t:abU) (N:ak),(∀(B:List (Nat×aB)) (F:Nat->abU) (J:Nat->ab0),al B k=some b->F k=t->bG (bc r q) w B F J N v)->aN (bc r q) w b.1 t b.2 x->iO k (l::d)=(k,b)::iO (k+1) d->ia k (l::d)=(k,N)::ia (k+1) d->_:=λb t N g j aj V=>by
   refine(⟨λK=>if K=k then t else h K,λK=>if K=k then x else f K,?_,?_,?_⟩:∃(h:Nat->abU) (f:Nat->ab0),(∀id b,al (iO k (l::d)) id=some b->k<=id/\(∃y,(x::z)[id-k]?=some y/\f id=y)/\aN (bc r q) w b.1 (h id) b.2 (f id))/\(∀a,gt (ia k (l::d)) (k+a)=.dead\/∃i,(v::G)[a]?=some i/\bG (bc r q) w (iO k (l::d)) h f (gt (ia k (l::d)) (k+a)) i)/\(∀a,a<k->gt (ia k (l::d)) a=.dead))
   ·intro id S u;rw[aj,bY] at u;split at u
    ·rename_i O;subst O;obtain rfl:=dV u;refine⟨aY _,⟨x,ac,ac⟩,by simp only[if_true];exact j⟩
    ·rename_i O;obtain⟨ar,e,R⟩:=L id S u;have I:¬id=k:=λp=>O p.symm;exact⟨ar,by simp only[if_neg I];exact e,by simp only[if_neg I];exact R⟩
   ·intro a;rw[V,hz];cases a with
    |zero=>
     right;refine⟨v,rfl,?_⟩;rw[if_pos U];exact g _ _ _ (by rw[aj,bY,if_pos rfl]) (by simp only[if_true])
    |succ a=>
     rw[if_neg U,(U:k+(a+1)=k+1+a)];refine(M a).imp id ?_;rintro⟨i,ar,e⟩;refine⟨i,by simpa using ar,?_⟩;refine e.rh (λm H ad=>⟨ad,bU.refl w H⟩) (λid _ S u=>?_);obtain⟨bd,_,av⟩:=i1 id S u;have I:¬id=k:=U;have Z:¬k=id:=U;exact⟨by rw[aj,bY,if_neg Z];exact u,by simp only[if_neg I],by simp only[if_neg I],av,λH _=>bU.refl w H⟩
   ·intro a A;rw[V,hz,if_neg U];exact D a U
  cases l with
  |v b=>
   obtain⟨rfl,t,g,j⟩:=C;refine⟨h,f,L,λa=>?_,λa A=>?_⟩
   ·show gt ((k,_)::_) _=_\/_;rw[hz];cases a with
    |zero=>
     right;refine⟨v,rfl,?_⟩;show bG _ _ _ _ _ (gt ((k,_)::_) _) _;rw[hz,if_pos U,g];exact .val j
    |succ a=>
     rw[if_neg U,(U:k+(a+1)=k+1+a)];refine(M a).imp id ?_;rintro⟨i,ar,e⟩;refine⟨i,by simpa using ar,?_⟩;show bG _ _ _ _ _ (gt ((k,_)::_) _) _;rw[hz,if_neg U];exact e
   ·show gt ((k,_)::_) _=_;rw[hz,if_neg U];exact D a U
  |n=>
   obtain⟨rfl,g⟩:=C;refine⟨h,f,L,λa=>?_,λa A=>?_⟩
   ·show gt ((k,_)::_) _=_\/_;rw[hz];cases a with
    |zero=>
     right;refine⟨v,rfl,?_⟩;show bG _ _ _ _ _ (gt ((k,_)::_) _) _;rw[hz,if_pos U,g];exact .cv _
    |succ a=>
     rw[if_neg U,(U:k+(a+1)=k+1+a)];refine(M a).imp id ?_;rintro⟨i,ar,e⟩;refine⟨i,by simpa using ar,?_⟩;show bG _ _ _ _ _ (gt ((k,_)::_) _) _;rw[hz,if_neg U];exact e
   ·show gt ((k,_)::_) _=_;rw[hz,if_neg U];exact D a U
  |s a0 a3=>
   refine⟨h,f,L,λa=>?_,λa A=>D a U⟩;cases a with
   |zero=>exact .inl (D k U)
   |succ a=>
    have A:=M a;rw[(U:k+1+a=k+(a+1))] at A;refine A.imp id ?_;rintro⟨i,ar,e⟩;exact⟨i,by simpa using ar,e⟩
  |c n bl=>
   obtain⟨rfl,bs,g,j⟩:=C;refine⟨h,f,L,λa=>?_,λa A=>?_⟩
   ·show gt ((k,_)::_) _=_\/_;rw[hz];cases a with
    |zero=>
     right;refine⟨v,rfl,?_⟩;show bG _ _ _ _ _ (gt ((k,_)::_) _) _;rw[hz,if_pos U,g];exact SD j
    |succ a=>
     rw[if_neg U,(U:k+(a+1)=k+1+a)];refine(M a).imp id ?_;rintro⟨i,ar,e⟩;refine⟨i,by simpa using ar,?_⟩;show bG _ _ _ _ _ (gt ((k,_)::_) _) _;rw[hz,if_neg U];exact e
   ·show gt ((k,_)::_) _=_;rw[hz,if_neg U];exact D a U
  |m b bB=>obtain⟨t,g,j⟩:=C;exact Q b t (.ref k []) (λB F J ar e=>by subst g;exact .ref (loc:=none) ar (by rw[e];exact aP.here)) j rfl rfl
  |o b=>obtain⟨t,g,j⟩:=C;exact Q b t (.ref k []) (λB F J ar e=>by subst g;exact .ref (loc:=none) ar (by rw[e];exact aP.here)) j rfl rfl
  |w Y X E P ce=>
   obtain⟨H,o,T,g,⟨a4,am,an⟩,j⟩:=C;refine Q ⟨.osl Y,X⟩ _ (.view k [] E P) (λB F J ar e=>?_) j rfl rfl;have W:bG (bc r q) w B F J (.view k [] E P) (.slice (some ⟨H,if T=E then o else o+E*Y.size,none⟩) (P-E) (T-E)):=.view (loc:=none) (len:=X.length) ar (by rw[e];exact aP.here) U am an;rw[if_neg U] at W;rw[g];exact W
theorem Wy {f:c6} (h:f.flatten.Nodup):(∀(a:Nat) b,f[a]?=some b->b.Nodup)/\∀(a c:Nat) b g,f[a]?=some b->f[c]?=some g->a≠c->∀e∈b,e∉g:=by
 induction f with
 |nil=>exact⟨λa b h=>by simp at h,λa c b g h=>by simp at h⟩
 |cons r f q=>
  simp only[iE,iJ] at h;obtain⟨m,n,l⟩:=h;obtain⟨i1,p⟩:=q n;refine⟨λa b d=>?_,λa c b g d i o e j k=>?_⟩
  ·cases a with
   |zero=>simp only[iY,bH] at d;subst d;exact m
   |succ a=>exact i1 a b (by simpa using d)
  ·cases a with
   |zero=>
    cases c with
    |zero=>exact o rfl
    |succ c=>
     simp only[iY,bH] at d;subst d;exact l e j e (iI.2 ⟨g,kA (by simpa using i),k⟩) rfl
   |succ a=>
    cases c with
    |zero=>
     simp only[iY,bH] at i;subst i;exact l e k e (iI.2 ⟨b,kA (by simpa using d),j⟩) rfl
    |succ c=>exact p a c b g (by simpa using d) (by simpa using i) U e j k
def yc (b:abS):ResultVar->Sem Value
 |.tmp a=>Pure.pure (b.getD a undef)
 |.cell c a=>do loadVar a (<-asAddr (b.getD c undef))
theorem aac {f:Func} (h:f.results=M.toArray) (c:abS) (a:World) {d:abU} (i:(M.mapM (yc c)).run s a=.ok d a):(results f c).run s a=.ok (ox d) a:=by
 unfold results;simp only[Sem.run_bind,h];rw[Array.mapM_eq_mapM_toList,Sem.run_map];have j:∀b:ResultVar->Sem Value,(∀e,b e=yc c e)->(M.mapM b).run s a=.ok d a:=λb g=>(by rw[show b=yc c from funext g];exact i);rw[j _ (λe=>by cases e<;>rfl)];simp only[Result.andThen_ok,Sem.run_pure];congr 1
 match d with
 |[]=>rfl
 |[r]=>rfl
 |r::l::k=>simp[ox]
theorem qk.rep {K:dA} {e:abS} {F:Nat->Prop} {N:Nat->abU} (t:bE K i e v F N z) (I:G.1.eu=true) {d:ResultVar} (a:qk s i G d f):∃r L,(yc e d).run s v=.ok r v/\yT F v G r L/\(∃ad,(f.map z).flatten.Perm (L++ad))/\∀id∈f,∃G,al i.h id=some G:=by
 have M:∀(id:Nat) (g:aB) (n:List aV),al i.h id=some g->db g.1 g.2 n G.1 G.2->∃q k j o,aP v g.1 none (N id) n G.1 q k/\aN (bc F K.B) v G.1 k G.2 j/\nQ v q k G.1.size/\(z id).Perm (j++o):=(by intro id g n c u;obtain⟨ar,J,ap⟩:=t.tree id _ c;obtain⟨q,k,j,o,C,p,E,D,_⟩:=Bb n (τ':=G.1) (y:=G.2) ar (loc:=none) (λ_ _ a=>by cases a) J (λ_ _ a=>by cases a) (t.notM c) u;exact⟨q,k,j,o,C,p,E,D⟩);cases d with
 |tmp d=>
  have b:=t.tmp d;simp only[qk] at a;split at a
  ·rename_i an a0 l;rw[l] at b;obtain⟨rfl,rfl⟩:=a;generalize m:e.getD d undef=r at b;cases b with|val am=>
   exact⟨_,[],by show(Pure.pure (e.getD d undef):Sem Value).run s v=_;rw[m];rfl,⟨_,rfl,am.eu I⟩,⟨[],ac⟩,ac⟩
  ·rename_i r l;rw[l] at b;obtain⟨ar,J,rfl⟩:=a;generalize m:e.getD d undef=av at b;cases b;exact⟨_,[],by show(Pure.pure (e.getD d undef):Sem Value).run s v=_;rw[m];rfl,⟨_,J.symm,n6 ar⟩,⟨[],ac⟩,ac⟩
  ·rename_i id n l;rw[l] at b;obtain⟨rfl,g,c,u⟩:=a;generalize m:e.getD d undef=r at b;cases b with|ref A x=>
   rw[c] at A;cases A;obtain⟨q,k,j,o,C,p,E,D⟩:=M id g n c u;obtain⟨rfl,rfl,rfl⟩:=x.iu C;refine⟨_,j,by show(Pure.pure (e.getD d undef):Sem Value).run s v=_;rw[m];rfl,⟨_,rfl,p.eu I⟩,⟨o,by simpa using D⟩,λZ w=>?_⟩;rw[eS] at w;subst w;exact⟨_,c⟩
  ·exact a.elim
 |cell H O=>
  have b:=t.tmp H;simp only[qk] at a;obtain⟨V,a⟩:=a;split at a
  ·rename_i id n l;rw[l] at b;obtain⟨rfl,g,an,c,Y,u⟩:=a;generalize m:e.getD H undef=r at b;cases b with|ref A x=>
   rw[c] at A;cases A;have:=x.ty;rw[Y] at this;cases this;obtain⟨P,ab,S,rfl,Q,R⟩:=ny (t.tree id _ c).1 x;have X:=x.append (aP.DM Q R);obtain⟨q,k,j,o,C,p,E,D⟩:=M id g _ c u;obtain⟨aj,T,U⟩:=X.iu C;subst T;subst U;subst aj;have W:=(E P ab rfl).1;refine⟨bL G.1 S,j,?_,⟨_,rfl,p.eu I⟩,⟨o,by simpa using D⟩,λZ w=>?_⟩
   ·show(do loadVar O (<-asAddr (e.getD H undef)):Sem Value).run s v=_;rw[m];simp only[bL,List.headD,asAddr,Sem.run_bind,Sem.run_pure,Result.andThen_ok];exact Mj V W p.len
   ·rw[eS] at w;subst w;exact⟨_,c⟩
  ·exact a.elim
theorem r0.rep {k:Program} {t:dA} {g:aH} {s:abS} {f w0:World} {j:Nat->Prop} {H:Nat->abU} {m:Nat->ab0} (n:bE t g s f j H m):∀{e:List ResultVar} {p:List aB} {a:ab0},r0 k g e p a->∃vs d,(e.mapM (yc s)).run k f=.ok vs f/\kF (yT j f) p vs d/\(∃F,(a.map m).flatten.Perm (d.flatten++F))/\∀id∈a,∃i,al g.h id=some i
 |[],[],a,b=>by obtain rfl:a=[]:=b;exact⟨[],[],rfl,trivial,⟨[],.refl _⟩,ac⟩
 |[],i::I,a,b=>b.elim
 |r::e,[],a,b=>b.elim
 |r::e,i::I,a,b=>by
  obtain⟨E,i1,K,rfl,C,D⟩:=b;obtain⟨J,l,u,v,⟨G,w⟩,x⟩:=C.rep n E;obtain⟨vs,d,y,z,⟨q,A⟩,B⟩:=r0.rep (w0:=w0) n D;refine⟨J::vs,l::d,?_,⟨v,z⟩,⟨G++q,?_⟩,λo c=>?_⟩
  ·simp only[List.mapM_cons,Sem.run_bind,u,Sem.run_pure,Result.andThen_ok,y]
  ·simp only[fZ,oZ,iE];refine(w.append A).trans ?_;rw[oT,oT];refine List.Perm.append_left l ?_;rw[<-oT,<-oT];exact List.Perm.append_right q List.perm_append_comm
  ·rcases eH.1 c with c|c
   ·exact x o c
   ·exact B o c
theorem HB:∀{k:Nat} {args:List fX},∀b∈gp k args,k<=b
 |k,[],b,a=>by cases a
 |k,f::args,b,a=>by
  have d:=HB (k:=k+1) (args:=args);cases f with
  |m e q=>
   rcases dh.1 a with rfl|a
   ·exact aY _
   ·have:=d b a;omega
  |w t p j h r=>
   rcases dh.1 a with rfl|a
   ·exact aY _
   ·have:=d b a;omega
  |v e=>have:=d b a;omega
  |o e=>have:=d b a;omega
  |c n l=>have:=d b a;omega
  |n=>have:=d b a;omega
  |s g i=>have:=d b a;omega
theorem nR.rep {S:dA} {C:aH} {F:abS} {w:World} {G:Nat->Prop} {M:Nat->abU} {u:Nat->ab0} (x:bE S C F w G M u) {B:Nat->Prop}:∀{k:Nat} {g:List fX} {vs:abU},nR C k g->vs.length=g.length->(∀e,e∈gp k g->∀v,vs[e-k]?=some v->F.getD e undef=v)->∃d,kF (vI G B w) g vs d/\d.flatten=((gp k g).map u).flatten/\∀id∈gp k g,k<=id/\∃t,al C.h id=some t
 |k,[],vs,i,y,z=>by cases vs with
  |nil=>exact⟨[],trivial,rfl,by simp[gp]⟩
  |cons=>cases y
 |k,H::g,[],i,y,z=>by cases y
 |k,H::g,v::vs,i,y,z=>by
  have r:nR C (k+1) g->(∀e,e∈gp (k+1) g->e∈gp k (H::g))->∃d,kF (vI G B w) g vs d/\d.flatten=((gp (k+1) g).map u).flatten/\∀id∈gp (k+1) g,k+1<=id/\∃t,al C.h id=some t:=λi Y=>by
   have W:=HB (k:=k+1) (args:=g);exact nR.rep x i (by simpa using y) (λe f an Z=>z e (Y e f) an (by
    have:=W e f;rw[(U:e-k=(e-(k+1))+1),o1];exact Z))
  cases H with
  |v t=>
   obtain⟨d,j,l,b⟩:=r i (λe f=>f);exact⟨[]::d,⟨rfl,j⟩,by simpa[gp] using l,λid a=>⟨by have:=(b id a).1;omega,(b id a).2⟩⟩
  |o t=>
   obtain⟨d,j,l,b⟩:=r i (λe f=>f);exact⟨[]::d,⟨rfl,j⟩,by simpa[gp] using l,λid a=>⟨by have:=(b id a).1;omega,(b id a).2⟩⟩
  |n=>
   obtain⟨d,j,l,b⟩:=r i (λe f=>f);exact⟨[]::d,⟨rfl,j⟩,by simpa[gp] using l,λid a=>⟨by have:=(b id a).1;omega,(b id a).2⟩⟩
  |s bd bs=>
   obtain⟨d,j,l,b⟩:=r i (λe f=>f);exact⟨[]::d,⟨rfl,j⟩,by simpa[gp] using l,λid a=>⟨by have:=(b id a).1;omega,(b id a).2⟩⟩
  |c n c1=>
   obtain⟨d,j,l,b⟩:=r i (λe f=>f);exact⟨[]::d,⟨rfl,j⟩,by simpa[gp] using l,λid a=>⟨by have:=(b id a).1;omega,(b id a).2⟩⟩
  |m t c2=>
   obtain⟨⟨K,q,L,ab⟩,i⟩:=i;obtain⟨d,j,l,b⟩:=r i (λe f=>e0 _ f);have p:=x.tmp k;rw[K] at p;have J:F.getD k undef=v:=z k (by simp[gp]) v ac;rw[J] at p;obtain⟨E,_⟩:=x.tree k _ q;refine⟨u k::d,⟨?_,j⟩,by simp only[gp,er,iE,l],λid a=>?_⟩
   ·cases p with|ref A I=>
    rw[q] at A;cases A;obtain⟨rfl,rfl,rfl⟩:=aP.eX.1 I;exact⟨M k,rfl,E.eu L⟩
   ·rcases dh.1 a with rfl|a
    ·exact⟨aY _,_,q⟩
    ·exact⟨by have:=(b id a).1;omega,(b id a).2⟩
  |w R ap bB bl av=>
   obtain⟨⟨K,q,⟨L,ab⟩,ad⟩,i⟩:=i;obtain⟨d,j,l,b⟩:=r i (λe f=>e0 _ f);have p:=x.tmp k;rw[K] at p;have J:F.getD k undef=v:=z k (by simp[gp]) v ac;rw[J] at p;obtain⟨E,_⟩:=x.tree k _ q;refine⟨u k::d,⟨?_,j⟩,by simp only[gp,er,iE,l],λid a=>?_⟩
   ·cases p with
    |ku=>omega
    |view A I ar ci co=>
    rename_i cv dl ce N P am O;rw[q] at A;cases A;obtain⟨aj,a4,T⟩:=aP.eX.1 I;simp only[ah.osl.injEq] at aj;subst aj;have D:M k=[.slice (some ⟨N,P,none⟩) am O]:=T;have X:=E;obtain⟨a0,a3,Q,cs⟩:=X;rw[Q] at D;simp only[fY,Value.slice.injEq,and_true] at D;refine⟨N,P,O,by rw[if_neg U],U,?_⟩;have:=aN.eu (τ:=.osl R) (B':=B) L E;rw[Q,D.1,D.2.2] at this;have V:List.length (α:=R.den) av=ap.length:=ad;rw[<-V];exact this
   ·rcases dh.1 a with rfl|a
    ·exact⟨aY _,_,q⟩
    ·exact⟨by have:=(b id a).1;omega,(b id a).2⟩
theorem p7.WL {o:FuncId} {m:Func} {c:Code} {e:List fX} (d4:E.P.funcs[o]?=some m) (d:m.body=some c) (ed:m.results=M.toArray) (f5:e.length<=m.ntmps) (b:∀f:dA,f.n=m.ntmps->f.pin=gp 0 e++mS (nC 0 e)->(∀a,f.I0 a\/f.B a->a<f.w0.heap.size/\¬f.F0 a)->r2 f (nC 0 e)->jL E f.I0 f.w0->J E f c ⟨ia 0 e,iO 0 e⟩ (GL E.P e M S)):p7 E o e S:=by
 intro x y G l K ap ad d8 N a0 d5;obtain⟨el,f4⟩:=C4 ad;obtain⟨ci,Y,I,cv,f2⟩:=HA (k:=0) ad
 let f:dA:={I0:=y,B:=G,F0:=λa=>a∈K.flatten,w0:=x,n:=m.ntmps,pin:=gp 0 e++mS (nC 0 e),vs:=λi=>l.getD i undef}
 have a4:∀i,(l.toArray++Array.replicate (m.ntmps-l.toArray.size) undef).getD i undef=l.getD i undef:=by
  intro i;rw[yD,iF];rcases bb i l.length with Q|Q
  ·rw[Array.getElem?_append,if_pos (by simpa using Q)];simp
  ·rw[Array.getElem?_append,if_neg (by simp;omega),fu Q,Array.getElem?_replicate];split<;>rfl
 obtain⟨em,eq⟩:=Wy d8;have ds:bE f ⟨ia 0 e,iO 0 e⟩ (l.toArray++Array.replicate (m.ntmps-l.toArray.size) undef) x y ci Y:=by
  refine{n:=?_,i0:=λ_ b=>b,i1:=λ_ b=>.inl b,ib:=ap,tree:=?_,dis:=?_,tmp:=?_,frame:=λ_ _ _=>rfl,evo:=λ_ _=>.refl _ _,size:=aY _,os:=rfl,tape:=rfl,output:=rfl,pin:=λi _=>a4 i}
  ·simp only[Array.size_append,qi,Array.size_replicate];show _=m.ntmps;omega
  ·intro id j v;obtain⟨_,⟨o,ar,t⟩,T⟩:=I id j v;rw[Nat.sub_zero] at ar;refine⟨T,by rw[t];exact em id o ar,λa d=>?_⟩;rw[t] at d;have q:a∈K.flatten:=iI.2 ⟨o,kA ar,d⟩;obtain⟨C,U,fs⟩:=N a q;exact⟨C,U,fs,.inr q⟩
  ·intro bl s j f0 d6 u d7 a d am;obtain⟨_,⟨o,ar,t⟩,_⟩:=I bl j d6;obtain⟨_,⟨c1,C,U⟩,_⟩:=I s f0 u;rw[Nat.sub_zero] at ar C;rw[t] at d;rw[U] at am;exact eq bl s o c1 ar C d7 a d am
  ·intro i;show bG _ _ _ _ _ (gt (ia 0 e) i) _;rw[a4];rcases cv i with b|⟨w,L,z⟩
   ·rw[ip] at b;rw[b];exact .dead _
   ·rw[ip] at z;rw[iF,L];exact z
 have ek:r2 f (nC 0 e):=by
  cases p:nC 0 e with
  |none=>trivial
  |some fn=>
   obtain⟨i,o,bB⟩:=fn;rw[p] at a0;obtain⟨_,_,a,ex,f1,V,D,W,fz,fT⟩:=a0;have av:f.pin=gp 0 e++mS (some (i,o,bB)):=(by rw[<-p]);refine⟨by rw[av];simp[mS],λs u=>by rw[av];simp[mS,u],a,ex,f1,V,D,W,fz,fT⟩
 refine calls_of_wp d4 d (wp_mono (b f rfl rfl (λa d=>⟨ap a d,λq=>d.elim (N a q).1 (N a q).2.1⟩) ek d5 _ x ⟨y,ci,Y,ds⟩ rfl) ?_);rintro f3 X F ⟨cs,⟨d3,bs,d9,R,q⟩,⟨H,f7,Z,g⟩,an⟩;obtain⟨f8,p,ft,V,⟨f6,D⟩,W⟩:=r0.rep (w0:=x) g d9;obtain⟨r,c2,ab,dl⟩:=nR.rep g (B:=G) (vs:=l) q el (λs u w bd=>by
  rw[Nat.sub_zero] at bd;rw[g.pin s (m7 _ u)];show l.getD s undef=w;rw[iF,bd];rfl)
 have R:=h2.ok R;have a3:∀id∈gp 0 e++bs,∃j,al cs.h id=some j:=λid O=>by
  rcases eH.1 O with b|b
  ·exact(dl id b).2
  ·exact W id b
 have A:=Fa g a3 R;rw[fZ,oZ,<-ab] at A;have A:(r.flatten++p.flatten).Nodup:=(by have:=(List.Perm.append_left r.flatten D).nodup_iff.1 A;rw[<-oT] at this;exact(iJ.1 this).1);have d0:∀a∈r.flatten++p.flatten,∃id j,al cs.h id=some j/\a∈Z id:=λa d=>by
  have d:a∈((gp 0 e++bs).map Z).flatten:=by
   rw[fZ,oZ,<-ab];rcases eH.1 d with b|b
   ·exact m7 _ b
   ·exact k4 _ (D.mem_iff.2 (m7 _ b))
  obtain⟨bB,L,z⟩:=iI.1 d;obtain⟨id,O,rfl⟩:=bT.1 L;obtain⟨j,v⟩:=a3 id O;exact⟨id,j,v,z⟩
 have ce:∃w,(results m X.tmps).run E.P F=.ok w F/\∃H r p co,Ending.returned w=.returned (ox co)/\G5 y G x K e l S H r p co F:=
  ⟨_,aac ed X.tmps F ft,H,r,p,_,rfl,c2,V,A,(λa d=>by
   obtain⟨id,j,v,d1⟩:=d0 a d;obtain⟨ar,t,T,fp⟩:=(g.tree id j v).2.2 a d1;exact⟨ar,t,T,fp⟩),g.i0,(λa d=>by
   rcases g.i1 a d with b|b|b
   ·exact .inl b
   ·exact .inr ⟨g.ib a (.inl d),.inl b⟩
   ·exact .inr ⟨g.ib a (.inl d),.inr b⟩),g.size,g.os,g.tape,g.output,g.evo,λa d d2=>g.frame a d d2⟩
 rcases d3 with rfl|rfl
 ·exact⟨an,ce⟩
 ·exact⟨an,ce⟩
end
end
section
open Classical in
def pick {a:Type} (c:a->Prop):Option a:=if h:∃b,c b then some h.choose else none
theorem Zd {d:a->Prop} {c:a} (b:pick d=some c):d c:=by
 unfold pick at b;split at b
 ·rename_i e;cases b;exact e.choose_spec
 ·cases b
inductive nW where
 |v (τ:ah)
 |s (a:ak)
 |p (id:Nat) (a b:List aV)
 |w (id:Nat)
structure mr where
 g:List (Nat×nW)
 h:List (Nat×ah)
@[reducible] def oD:List (Nat×nW)->Type->Type
 |[],r=>r
 |(_,.v a)::l,r=>a.den×oD l r
 |(_,.s _)::l,r=>oD l r
 |(_,.p _ _ _)::l,r=>Nat×oD l r
 |(_,.w _)::l,r=>cZ×oD l r
@[reducible] def tq:List (Nat×ah)->Type
 |[]=>Unit
 |(_,a)::l=>a.den×tq l
@[reducible] def mr.den (a:mr):Type:=oD a.g (tq a.h)
def mD {e:Type}:(c:List (Nat×nW))->oD c e->List (Nat×ak)
 |[],_=>[]
 |(d,.v f)::c,s=>(d,.val f s.1)::mD c s.2
 |(d,.s a)::c,s=>(d,a)::mD c s
 |(d,.p id a b)::c,s=>(d,.ref id (a++.idx s.1::b))::mD c s.2
 |(d,.w id)::c,s=>(d,.view id [] s.1.1 s.1.2)::mD c s.2
def sH {b:Type}:(a:List (Nat×nW))->oD a b->b
 |[],s=>s
 |(_,.v _)::a,s=>sH a s.2
 |(_,.s _)::a,s=>sH a s
 |(_,.p _ _ _)::a,s=>sH a s.2
 |(_,.w _)::a,s=>sH a s.2
def sF:(a:List (Nat×ah))->tq a->List (Nat×aB)
 |[],_=>[]
 |(d,b)::a,s=>(d,⟨b,s.1⟩)::sF a s.2
def jy (a:mr) (b:a.den):aH:=⟨mD a.g b,sF a.h (sH a.g b)⟩
def gJ {τ:ah} (a:ah) (b:τ.den):Option a.den:=if e:τ=a then some (e▸b) else none
theorem jb {b:x.den} {c:n.den} (a:gJ n b=some c):(⟨x,b⟩:aB)=⟨n,c⟩:=by
 unfold gJ at a;split at a
 ·rename_i d;subst d;cases a;rfl
 ·cases a
def tv:aV->aV->Bool
 |.idx a,.idx b=>Nat.beq a b
 |.deref,.deref|.unst,.unst|.fst,.fst|.snd,.snd=>true
 |_,_=>false
theorem tv.ok {a:aV} (b:tv T a=true):T=a:=by cases T<;>cases a<;>first|rfl|(cases b;done)|(rw[es b])
def j8:List aV->List aV->Bool
 |[],[]=>true
 |a::c,b::d=>tv a b&&j8 c d
 |_,_=>false
theorem j8.ok:∀{c d:List aV},j8 c d=true->c=d
 |[],[],_=>rfl
 |[],_::_,b=>by cases b
 |_::_,[],b=>by cases b
 |a::c,e::d,b=>by simp only[j8,bg] at b;rw[tv.ok b.1,j8.ok b.2]
def r9:ak->ak->Bool
 |.ref a c,.ref b d=>Nat.beq a b&&j8 c d
 |.addr a c,.addr b d=>Nat.beq a b&&j8 c d
 |_,_=>false
theorem r9.ok {b c:ak} (a:r9 b c=true):b=c:=by cases b<;>cases c<;>first|(cases a;done)|(simp only[r9,bg] at a;rw[es a.1,j8.ok a.2])
def sa:List ak->List ak->Bool
 |[],[]=>true
 |a::c,b::d=>r9 a b&&sa c d
 |_,_=>false
theorem sa.ok:∀{c d:List ak},sa c d=true->c=d
 |[],[],_=>rfl
 |[],_::_,b=>by cases b
 |_::_,[],b=>by cases b
 |a::c,e::d,b=>by simp only[sa,bg] at b;rw[r9.ok b.1,sa.ok b.2]
def qt:ak->ak->Bool
 |.dt c e,.dt d f=>Nat.beq c d&&sa e f
 |a,b=>r9 a b
theorem qt.ok {b c:ak} (a:qt b c=true):b=c:=by cases b<;>cases c<;>first|exact r9.ok a|(simp only[qt,bg] at a;rw[es a.1,sa.ok a.2])
def yt:List aV->List aV->List aV->abW
 |[],a,.idx k::b=>bif j8 a b then some k else none
 |s::c,a,d::b=>bif tv s d then yt c a b else none
 |_,_,_=>none
theorem MI:∀{f b e:List aV} {d:Nat},yt f b e=some d->e=f++.idx d::b
 |[],b,[],d,a=>by cases a
 |[],b,s::e,d,a=>by
  cases s<;>simp only[yt] at a<;>try (cases a;done)
  cases c:j8 b e with
  |false=>rw[c] at a;cases a
  |true=>rw[c] at a;cases a;rw[j8.ok c];rfl
 |s::f,b,[],d,a=>by cases a
 |s::f,b,g::e,d,a=>by
  simp only[yt] at a;cases c:tv s g with
  |false=>rw[c] at a;cases a
  |true=>rw[c] at a;rw[tv.ok c,MI a];rfl
def ov {f:Type} (e:List (Nat×ak)) (g:Option f):(c:List (Nat×nW))->Option (oD c f)
 |[]=>g
 |(d,.v o)::c=>match gt e d with
  |.val _ m=>match gJ o m with
   |some n=>(ov e g c).map (λi=>(n,i))
   |none=>none
  |_=>none
 |(d,.s a)::c=>match qt a (gt e d) with
  |true=>ov e g c
  |false=>none
 |(d,.p id a b)::c=>match gt e d with
  |.ref h i=>bif Nat.beq id h then match yt a b i with
   |some k=>(ov e g c).map (λf=>(k,f))
   |none=>none else none
  |_=>none
 |(d,.w id)::c=>match gt e d with
  |.view h [] l j=>bif Nat.beq id h then(ov e g c).map (λf=>((l,j),f)) else none
  |_=>none
def B7 (b:List (Nat×aB)):(a:List (Nat×ah))->Option (tq a)
 |[]=>some ()
 |(d,g)::a=>match al b d with
  |some e=>match gJ g e.2 with
   |some f=>(B7 b a).map (λc=>(f,c))
   |none=>none
  |none=>none
def uV:List (Nat×ah)->Nat->Bool
 |[],_=>false
 |(k,_)::r,n=>bif Nat.beq k n then true else uV r n
def oE:List (Nat×nW)->List (Nat×ah)->Bool
 |[],_=>true
 |(_,.v _)::l,h=>oE l h
 |(_,.s a)::l,h=>(a.ids.all λid=>uV h id)&&oE l h
 |(_,.p id _ _)::l,h=>uV h id&&oE l h
 |(_,.w id)::l,h=>uV h id&&oE l h
def proj (a:mr) (b:aH):Option a.den:=bif oE a.g a.h then ov b.g (B7 b.h a.h) a.g else none
theorem A0:∀{b:List (Nat×ah)} {c:tq b} {id:Nat},uV b id=true->(al (sF b c) id).isSome=true
 |[],_,_,a=>by cases a
 |(k,e)::b,c,id,a=>by
  simp only[uV] at a;simp only[sF,al];cases d:Nat.beq k id with
  |true=>rfl
  |false=>rw[d] at a;exact A0 (by simpa using a)
theorem ya {o:Type} {q:aH} {n:Option o}:∀{e:List (Nat×nW)} {f:oD e o},ov q.g n e=some f->nh (mD e f) q/\n=some (sH e f)
 |[],f,c=>⟨trivial,c⟩
 |(d,.v F)::e,f,c=>by
  simp only[ov] at c;split at c
  case h_2=>cases c
  rename_i G D u;split at c
  case h_2=>cases c
  rename_i E x;obtain⟨y,k,rfl⟩:=eb.1 c;obtain⟨h,i⟩:=ya k;refine⟨⟨?_,h⟩,i⟩;rw[u];cases jb x;rfl
 |(d,.s a)::e,f,c=>by
  simp only[ov] at c;split at c
  case h_2=>cases c
  rename_i r;obtain⟨h,i⟩:=ya c;exact⟨⟨(qt.ok r).symm,h⟩,i⟩
 |(d,.p id a b)::e,f,c=>by
  simp only[ov] at c;split at c
  case h_2=>cases c
  rename_i m y k;cases j:Nat.beq id m with
  |false=>rw[j] at c;cases c
  |true=>
  rw[j] at c;simp only[cond_true] at c;split at c
  case h_2=>cases c
  rename_i B t;obtain⟨z,l,rfl⟩:=eb.1 c;obtain⟨h,i⟩:=ya l;refine⟨⟨?_,h⟩,i⟩;rw[k,MI t,es j]
 |(d,.w id)::e,f,c=>by
  simp only[ov] at c;split at c
  case h_2=>cases c
  rename_i m C A k;cases j:Nat.beq id m with
  |false=>rw[j] at c;cases c
  |true=>
  rw[j] at c;simp only[cond_true] at c;obtain⟨z,l,rfl⟩:=eb.1 c;obtain⟨h,i⟩:=ya l;refine⟨⟨?_,h⟩,i⟩;rw[k,es j]
theorem LO {e:aH}:∀{b:List (Nat×ah)} {c:tq b},B7 e.h b=some c->ni (sF b c) e
 |[],c,a=>trivial
 |(d,m)::b,c,a=>by
  simp only[B7] at a;split at a
  case h_2=>cases a
  rename_i j g;split at a
  case h_2=>cases a
  rename_i l i;obtain⟨k,f,rfl⟩:=eb.1 a;refine⟨?_,LO f⟩;rw[g];cases j;rw[jb i]
theorem yr {r:Type} {c:List (Nat×ah)} {t:tq c}:∀{l:List (Nat×nW)} {s:oD l r},oE l c=true->kM (mD l s) (sF c t)=true
 |[],s,h=>rfl
 |(d,.v f)::l,s,h=>by have:=yr (r:=r) (t:=t) (l:=l) (s:=s.2) h;simp only[kM,mD,rP,ak.ids,List.all_nil,Bool.true_and] at this|-;exact this
 |(d,.s a)::l,s,h=>by simp only[oE,bg] at h;have:=yr (r:=r) (t:=t) (l:=l) (s:=s) h.2;simp only[kM,mD,rP,bg] at this|-;refine⟨?_,this⟩;rw[eM] at h|-;exactλid e=>A0 (h.1 id e)
 |(_,.p id a b)::l,s,h=>by simp only[oE,bg] at h;have:=yr (r:=r) (t:=t) (l:=l) (s:=s.2) h.2;simp only[kM,mD,rP,bg] at this|-;refine⟨?_,this⟩;simp only[ak.ids,rP,List.all_nil,Bool.and_true];exact A0 h.1
 |(_,.w id)::l,s,h=>by simp only[oE,bg] at h;have:=yr (r:=r) (t:=t) (l:=l) (s:=s.2) h.2;simp only[kM,mD,rP,bg] at this|-;refine⟨?_,this⟩;simp only[ak.ids,rP,List.all_nil,Bool.and_true];exact A0 h.1
theorem ru {a:mr} {c:a.den} (b:proj a i=some c):nh (jy a c).g i/\ni (jy a c).h i/\kM (jy a c).g (jy a c).h=true:=by
 unfold proj at b;cases d:oE a.g a.h with
 |false=>rw[d] at b;cases b
 |true=>
  rw[d] at b;obtain⟨e,f⟩:=ya b;exact⟨e,LO f,yr d⟩
inductive fP where
 |v (τ:ah)
 |m (τ:ah)
 |o (τ:ah)
 |c (f:Nat) (τs:List ah)
 |n
 |s (f:Nat) (l:ab0)
 |w (σ:ah)
@[reducible] def kr:List ah->Type
 |[]=>Unit
 |τ::a=>τ.den×kr a
@[reducible] def fV:List fP->Type
 |[]=>Unit
 |.c _ e::a=>kr e×fV a
 |.n::a=>Unit×fV a
 |.s _ _::a=>Unit×fV a
 |.v b::a=>b.den×fV a
 |.m b::a=>b.den×fV a
 |.o b::a=>b.den×fV a
 |.w d::a=>(List d.den×Nat×Nat)×fV a
@[reducible] def hC:List fP->Type->Type
 |[],a=>a
 |.m e::b,a=>e.den×hC b a
 |.w d::b,a=>List d.den×hC b a
 |.v _::b,a=>hC b a
 |.o _::b,a=>hC b a
 |.c _ _::b,a=>hC b a
 |.n::b,a=>hC b a
 |.s _ _::b,a=>hC b a
structure aF where
 f:Nat
 ps:List fP
 rs:List ah
 vy:fV ps->Option (hC ps (kr rs))
def hB:(c:List ah)->kr c->List aB
 |[],_=>[]
 |τ::b,a=>⟨τ,a.1⟩::hB b a.2
def eV {j:Type}:(f:List fP)->fV f->hC f j->List fX
 |[],_,_=>[]
 |.v e::d,a,b=>.v ⟨e,a.1⟩::eV d a.2 b
 |.m e::d,a,b=>.m ⟨e,a.1⟩ b.1::eV d a.2 b.2
 |.o e::d,a,b=>.o ⟨e,a.1⟩::eV d a.2 b
 |.c h l::d,a,b=>.c h (hB l a.1)::eV d a.2 b
 |.n::d,a,b=>.n::eV d a.2 b
 |.w k::d,a,b=>.w k a.1.1 a.1.2.1 a.1.2.2 b.1::eV d a.2 b.2
 |.s g i::d,a,b=>.s g i::eV d a.2 b
def gU {d:Type}:(e:List fP)->hC e d->d
 |[],a=>a
 |.m _::b,a=>gU b a.2
 |.w _::b,a=>gU b a.2
 |.v _::b,a=>gU b a
 |.o _::b,a=>gU b a
 |.c _ _::b,a=>gU b a
 |.n::b,a=>gU b a
 |.s _ _::b,a=>gU b a
def iz:Nat->List fP->Option cO
 |_,[]=>none
 |k,.s a b::_=>some (k,a,b)
 |k,_::c=>iz (k+1) c
theorem yl {r:Type}:∀{k:Nat} {ps:List fP} {a:fV ps} {b:hC ps r},nC k (eV ps a b)=iz k ps
 |k,[],a,b=>rfl
 |k,e::d,a,b=>by have c:=λa b=>yl (r:=r) (k:=k+1) (ps:=d) (a:=a) (b:=b);cases e<;>first|exact c _ _|rfl
def aD (E:dY) (a:aF):Prop:=
 (∀(d:abS) (e:World),(callFunc a.f d).run E.P e=.ok (.enter a.f d) e)/\∀c b,a.vy c=some b->p7 E a.f (eV a.ps c b) (hB a.rs (gU a.ps b))
def gA:(j:ah)->j.den->List aV->(a:ah)->Option a.den
 |_,c,[],a=>gJ a c
 |.osl d,i,.idx h::b,a=>match i[h]? with
  |some g=>gA d g b a
  |none=>none
 |.optr d,c,.deref::b,a=>gA d c b a
 |.st d,c,.unst::b,a=>gA d c b a
 |.pr e _,c,.fst::b,a=>gA e c.1 b a
 |.pr _ f,c,.snd::b,a=>gA f c.2 b a
 |_,_,_,_=>none
theorem UJ {a:n.den}:gA n a [] x=gJ x a:=by cases n<;>rfl
theorem hh:∀{g:List aV} {τ:ah} {e:τ.den} {d:ah} {f:d.den},gA τ e g d=some f->db τ e g d f
 |[],τ,e,d,f,c=>by rw[UJ] at c;cases jb c;exact db.eX.2 ⟨rfl,rfl⟩
 |s::g,τ,e,d,f,c=>by
  cases τ<;>cases s<;>simp only[gA] at c<;>try (cases c;done)
  case osl.idx t i=>
   split at c
   ·rename_i h j;exact⟨h,j,hh c⟩
   ·cases c
  case optr.deref t=>exact hh (τ:=t) c
  case st.unst t=>exact hh (τ:=t) c
  case pr.fst a b=>exact hh (τ:=a) c
  case pr.snd a b=>exact hh (τ:=b) c
def vo {τ':ah} (b:τ'.den) (a:ah):Option a.den:=if e:df τ' a=true then some (cast (df.den e) b) else none
theorem LF {b:x.den} {c:n.den} (a:vo b n=some c):mn x b n c:=by
 unfold vo at a;split at a
 ·rename_i d;cases a;exact .same d (cast_heq _ _).symm
 ·cases a
def x9:(c:ah)->c.den->(b:ah)->Option b.den
 |.optr d,a,.ptr .dk e=>(vo (τ':=d) a e).map some
 |_,a,b=>vo a b
theorem Y8 {c:x.den} {d:n.den} (a:x9 x c n=some d):mn x c n d:=by
 unfold x9 at a;split at a
 ·obtain⟨f,b,rfl⟩:=eb.1 a;simp only[vo] at b;split at b
  ·rename_i e;cases b;exact .ptr e (cast_heq _ _).symm
  ·cases b
 ·exact LF a
def nj:ah->Value->Bool
 |τ,.agg _=>oi τ
 |_,.tuple _=>false
 |τ,_=>!oi τ
theorem nj.ok (a:nj n H=true):bL n H.cells.toList=H:=by
 cases H<;>simp only[nj] at a<;>first
  |(cases a;done)
  |(rw[Cc a];rfl)
  |(rw[vL] at a;rw[Cb a];rfl)
def mx (
 h:List (Nat×aB)) (f:ab0):ak->(a:ah)->Option a.den
 |.val _ g,a=>vo g a
 |.cv d,a=>bif nj a d then hu a d.cells.toList else none
 |.ref id c,a=>match dj id f with
  |true=>none
  |false=>match al h id with
   |none=>none
   |some b=>match dO b.1 c with
    |none=>none
    |some e=>match gA b.1 b.2 c e with
     |none=>none
     |some i=>x9 e i a
 |_,_=>none
theorem HE {i:n.den} (a:mx e f d n=some i):rI e f d ⟨n,i⟩:=by
 cases d with
 |val c b=>exact LF a
 |cv p=>
  simp only[mx] at a;cases g:nj n p with
  |false=>rw[g] at a;cases a
  |true=>rw[g] at a;exact⟨a,nj.ok g⟩
 |ref id m=>
  simp only[mx] at a;split at a
  ·cases a
  rename_i j;split at a
  ·cases a
  rename_i o k;split at a
  ·cases a
  rename_i c q;split at a
  ·cases a
  rename_i b l;have:dj id f=false/\∃h c b,al e id=some h/\db h.1 h.2 m c b/\mn c b n i:=⟨j,o,c,b,k,hh l,Y8 a⟩;exact this
 |_=>cases a
def nr (b:List (Nat×aB)) (a:ab0):(g:List ah)->List ak->Option (kr g)
 |[],[]=>some ()
 |τ::d,c::as=>match mx b a c τ with
  |some f=>(nr b a d as).map (λe=>(f,e))
  |none=>none
 |_,_=>none
theorem Jm {f:List (Nat×aB)} {d:ab0}:∀{c:List ah} {e:List ak} {b:kr c},nr f d c e=some b->hd (rI f d) e (hB c b)
 |[],[],_,_=>trivial
 |[],_::_,_,a=>by cases a
 |_::_,[],_,a=>by cases a
 |τ::j,i::as,b,a=>by
  simp only[nr] at a;split at a
  case h_2=>cases a
  rename_i l h;obtain⟨k,g,rfl⟩:=eb.1 a;exact⟨HE h,Jm g⟩
def p0:List ak->List fP->ab0
 |.ref id []::as,.m _::a=>id::p0 as a
 |.ref id []::as,.o _::a=>id::p0 as a
 |.view id [] _ _::as,.w _::a=>id::p0 as a
 |_::as,_::a=>p0 as a
 |_,_=>[]
def rk:Value->Bool
 |.slice none 0 0=>true
 |_=>false
theorem rk.ok (a:rk H=true):H=.slice none 0 0:=by
 unfold rk at a;split at a
 ·rfl
 ·cases a
def xY:(a:ah)->Value->Option a.den
 |.osl _,.slice none 0 0=>some []
 |_,_=>none
theorem WG {b:n.den} (a:xY n H=some b):H=.slice none 0 0/\∃c,(⟨n,b⟩:aB)=⟨.osl c,[]⟩:=by
 unfold xY at a;split at a
 ·cases a;exact⟨rfl,_,rfl⟩
 ·cases a
def ee (d:List (Nat×aB)) (f:ab0):(t:List fP)->List ak->Option (fV t)
 |[],[]=>some ()
 |.v g::b,p::as=>match mx d f p g with
  |some e=>(ee d f b as).map (λa=>(e,a))
  |none=>none
 |.c r u::b,.dt q a::as=>bif Nat.beq q r then match nr d f u a with
  |some e=>(ee d f b as).map (λa=>(e,a))
  |none=>none else none
 |.m g::b,.ref id []::as=>bif g.eu&&p3 g then match al d id with
  |some h=>match gJ g h.2 with
   |some e=>(ee d f b as).map (λa=>(e,a))
   |none=>none
  |none=>none else none
 |.o g::b,.ref id []::as=>match al d id with
  |some h=>match gJ g h.2 with
   |some e=>(ee d f b as).map (λa=>(e,a))
   |none=>none
  |none=>none
 |.n::b,.cv i::as=>bif rk i then(ee d f b as).map (λa=>((),a)) else none
 |.s _ _::b,_::as=>(ee d f b as).map (λa=>((),a))
 |.o g::b,.cv i::as=>match xY g i with
  |some e=>(ee d f b as).map (λa=>(e,a))
  |none=>none
 |.w l::b,.view id [] k j::as=>bif l.eu then(bif Nat.blt k j then match al d id with
  |some h=>match gJ (.osl l) h.2 with
   |some e=>(ee d f b as).map (λa=>((e,k,j),a))
   |none=>none
  |none=>none else none) else none
 |_,_=>none
def y5 {h:Type} (f:List (Nat×aB)) (e:ab0) (av:ak) (c:ah) (d:c.den->Option h):Option h:=match av with
 |.ref id g=>match dj id e with
  |true=>none
  |false=>match al f id with
   |none=>none
   |some a=>match dO a.1 g with
    |none=>none
    |some i=>(gA a.1 a.2 g i).bind λj=>match x9 i j c with
     |none=>none
     |some b=>d b
 |av=>match mx f e av c with
  |none=>none
  |some b=>d b
theorem R7 {g:n.den->Option a}:y5 e f d n g=(mx e f d n).bind g:=by
 cases d with
 |ref id h=>
  simp only[y5,mx];cases dj id f with
  |true=>rfl
  |false=>
   simp only;cases al e id with
   |none=>rfl
   |some c=>
    simp only;cases dO c.1 h with
    |none=>rfl
    |some i=>
     simp only;cases gA c.1 c.2 h i with
     |none=>rfl
     |some j=>
      simp only[aG];cases x9 i j n<;>rfl
 |_=>
  simp only[y5];split
  ·rename_i b;rw[b];rfl
  ·rename_i b;rw[b];rfl
def iQ {p:Type} (e:List (Nat×aB)) (g:ab0):(x:List fP)->List ak->(fV x->Option p)->Option p
 |[],[],a=>a ()
 |.v h::d,r::as,a=>y5 e g r h λf=>iQ e g d as λb=>a (f,b)
 |.c u y::d,.dt t b::as,a=>bif Nat.beq t u then match nr e g y b with
  |some f=>iQ e g d as λb=>a (f,b)
  |none=>none else none
 |.m h::d,.ref id []::as,a=>bif h.eu&&p3 h then match al e id with
  |some i=>match gJ h i.2 with
   |some f=>iQ e g d as λb=>a (f,b)
   |none=>none
  |none=>none else none
 |.o h::d,.ref id []::as,a=>match al e id with
  |some i=>match gJ h i.2 with
   |some f=>iQ e g d as λb=>a (f,b)
   |none=>none
  |none=>none
 |.n::d,.cv j::as,a=>bif rk j then iQ e g d as λb=>a ((),b) else none
 |.s _ _::d,_::as,a=>iQ e g d as λb=>a ((),b)
 |.o h::d,.cv j::as,a=>match xY h j with
  |some f=>iQ e g d as λb=>a (f,b)
  |none=>none
 |.w q::d,.view id [] l k::as,a=>bif q.eu then(bif Nat.blt l k then match al e id with
  |some i=>match gJ (.osl q) i.2 with
   |some f=>iQ e g d as λb=>a ((f,l,k),b)
   |none=>none
  |none=>none else none) else none
 |_,_,_=>none
theorem lX {A:Type} {d:List (Nat×aB)} {f:ab0}:∀{l:List fP} {r:List ak} {b:fV l->Option A},iQ d f l r b=(ee d f l r).bind b
 |[],[],b=>rfl
 |[],_::_,b=>rfl
 |p::a,[],b=>by cases p<;>rfl
 |.v h::a,e::as,b=>by
  simp only[iQ,ee,R7];cases mx d f e h with
  |none=>rfl
  |some g=>
   simp only[aG];rw[lX];cases ee d f a as<;>rfl
 |.c z B::a,e::as,b=>by
  cases e with
  |dt y i=>
   simp only[iQ,ee];cases Nat.beq y z with
   |false=>rfl
   |true=>
    simp only[cond_true];cases nr d f B i with
    |none=>rfl
    |some g=>
     simp only;rw[lX];cases ee d f a as<;>rfl
  |ref id p=>cases p<;>rfl
  |_=>rfl
 |.m h::a,e::as,b=>by
  cases e with
  |ref id p=>
   cases p with
   |cons=>rfl
   |nil=>
    simp only[iQ,ee];cases(h.eu&&p3 h) with
    |false=>rfl
    |true=>
     simp only[cond_true];cases al d id with
     |none=>rfl
     |some j=>
      simp only;cases gJ h j.2 with
      |none=>rfl
      |some g=>
       simp only;rw[lX];cases ee d f a as<;>rfl
  |_=>rfl
 |.o h::a,e::as,b=>by
  cases e with
  |ref id p=>
   cases p with
   |cons=>rfl
   |nil=>
    simp only[iQ,ee];cases al d id with
    |none=>rfl
    |some j=>
     simp only;cases gJ h j.2 with
     |none=>rfl
     |some g=>
      simp only;rw[lX];cases ee d f a as<;>rfl
  |cv q=>
   simp only[iQ,ee];cases xY h q with
   |none=>rfl
   |some g=>
    simp only;rw[lX];cases ee d f a as<;>rfl
  |_=>rfl
 |.w x::a,e::as,b=>by
  cases e with
  |view id p u t=>
   cases p with
   |cons=>rfl
   |nil=>
    simp only[iQ,ee];cases x.eu with
    |false=>rfl
    |true=>
     simp only[cond_true];cases Nat.blt u t with
     |false=>rfl
     |true=>
     simp only[cond_true];cases al d id with
     |none=>rfl
     |some j=>
      simp only;cases gJ (.osl x) j.2 with
      |none=>rfl
      |some g=>
       simp only;rw[lX];cases ee d f a as<;>rfl
  |ref id p=>cases p<;>rfl
  |_=>rfl
 |.n::a,e::as,b=>by
  cases e with
  |cv q=>
   simp only[iQ,ee];cases rk q with
   |false=>rfl
   |true=>
    simp only[cond_true];rw[lX];cases ee d f a as<;>rfl
  |ref id p=>cases p<;>rfl
  |_=>rfl
 |.s C i::a,e::as,b=>by
  have k:∀g:Option (fV a),(g.bind λi=>b ((),i))=(g.map λi=>((),i)).bind b:=λg=>(by cases g<;>rfl);cases e with
  |ref id p=>cases p<;>(simp only[iQ,ee];rw[lX];exact k _)
  |view id p u t=>cases p<;>(simp only[iQ,ee];rw[lX];exact k _)
  |_=>simp only[iQ,ee];rw[lX];exact k _
theorem Gj {r:Type}:∀{ps:List fP} {a:fV ps} {b:hC ps r} {avs:List ak},eF avs (eV ps a b)=p0 avs ps
 |[],a,b,avs=>by cases avs with|nil=>rfl|cons h c=>cases h<;>first|rfl|(rename_i id p;cases p<;>rfl)|(rename_i id p c g;cases p<;>rfl)
 |p::c,a,b,[]=>by cases p<;>rfl
 |p::c,a,b,f::avs=>by have d:=λa b=>Gj (r:=r) (ps:=c) (a:=a) (b:=b) (avs:=avs);cases p<;>cases f<;>first|exact d _ _|(rename_i id e;cases e<;>simp only[eV,eF,p0,d];done)|(rename_i id e c g;cases e<;>simp only[eV,eF,p0,d])
theorem ob {G:Type} {r:List (Nat×aB)} {x:ab0}:∀{t:List fP} {f:fV t} {g:hC t G} {i:List ak},ee r x t i=some f->m1 r x i (eV t f g)
 |[],f,g,[],_=>trivial
 |[],f,g,_::_,a=>by cases a
 |p::j,f,g,[],a=>by cases p<;>cases a
 |.v u::j,f,g,e::i,a=>by
  simp only[ee] at a;split at a
  case h_2=>cases a
  rename_i l h;obtain⟨k,d,rfl⟩:=eb.1 a;exact⟨by cases e<;>exact HE h,ob d⟩
 |.c F J::j,f,g,e::i,a=>by
  cases e with
  |dt E k=>
   simp only[ee] at a;cases b:Nat.beq E F with
   |false=>rw[b] at a;cases a
   |true=>
    rw[b] at a;obtain rfl:=es b;simp only[cond_true] at a;split at a
    case h_2=>cases a
    rename_i l h;obtain⟨I,d,rfl⟩:=eb.1 a;exact⟨⟨rfl,Jm h⟩,ob d⟩
  |ref id p=>cases p<;>cases a
  |_=>cases a
 |.m u::j,f,g,e::i,a=>by
  cases e with
  |ref id p=>cases p with
   |cons=>cases a
   |nil=>
    simp only[ee] at a;cases b:(u.eu&&p3 u) with
    |false=>rw[b] at a;cases a
    |true=>
     rw[b] at a;simp only[bg] at b;simp only[cond_true] at a;split at a
     case h_2=>cases a
     rename_i B q;split at a
     case h_2=>cases a
     rename_i l h;obtain⟨k,d,rfl⟩:=eb.1 a;refine⟨⟨?_,b.1,b.2⟩,ob d⟩;rw[q,<-jb h]
  |_=>cases a
 |.o u::j,f,g,e::i,a=>by
  cases e with
  |ref id p=>cases p with
   |cons=>cases a
   |nil=>
    simp only[ee] at a;split at a
    case h_2=>cases a
    rename_i B q;split at a
    case h_2=>cases a
    rename_i l h;obtain⟨k,d,rfl⟩:=eb.1 a;refine⟨?_,ob d⟩;show al r id=some _;rw[q,<-jb h]
  |cv C=>
   simp only[ee] at a;split at a
   case h_2=>cases a
   rename_i l h;obtain⟨k,d,rfl⟩:=eb.1 a;exact⟨WG h,ob d⟩
  |_=>cases a
 |.w H::j,f,g,e::i,a=>by
  cases e with
  |view id p A y=>cases p with
   |cons=>cases a
   |nil=>
    simp only[ee] at a;cases b:H.eu with
    |false=>rw[b] at a;cases a
    |true=>
     rw[b] at a;simp only[cond_true] at a;cases z:Nat.blt A y with
     |false=>rw[z] at a;cases a
     |true=>
     rw[z] at a;simp only[cond_true] at a;split at a
     case h_2=>cases a
     rename_i B q;split at a
     case h_2=>cases a
     rename_i l h;obtain⟨k,d,rfl⟩:=eb.1 a;refine⟨⟨?_,⟨rfl,rfl⟩,eT z,b⟩,ob d⟩;rw[q,<-jb h]
  |ref id p=>cases p<;>cases a
  |_=>cases a
 |.n::j,f,g,e::i,a=>by
  cases e with
  |cv C=>
   simp only[ee] at a;cases b:rk C with
   |false=>rw[b] at a;cases a
   |true=>
    rw[b] at a;obtain⟨k,d,rfl⟩:=eb.1 a;exact⟨rk.ok b,ob d⟩
  |ref id p=>cases p<;>cases a
  |_=>cases a
 |.s D k::j,f,g,e::i,a=>by
  have a:(ee r x j i).map (λl=>(((),l):fV (.s D k::j)))=some f:=by
   cases e with
   |ref id p=>cases p<;>exact a
   |view id p A y=>cases p<;>exact a
   |_=>exact a
  obtain⟨l,d,rfl⟩:=eb.1 a;refine⟨?_,ob d⟩;cases e with
  |ref id p=>cases p<;>trivial
  |view id p A y=>cases p<;>trivial
  |_=>trivial
end
section
def kU:(τ:ah)->τ.den->List aV->(b:ah)->b.den->Option τ.den
 |τ,_,[],_,a=>gJ τ a
 |.osl f,h,.idx g::c,b,a=>match h[g]? with
  |some k=>(kU f k c b a).map λe=>h.set g e
  |none=>none
 |.optr f,d,.deref::c,b,a=>kU f d c b a
 |.st f,d,.unst::c,b,a=>kU f d c b a
 |.pr i _,d,.fst::c,b,a=>(kU i d.1 c b a).map λe=>(e,d.2)
 |.pr _ j,d,.snd::c,b,a=>(kU j d.2 c b a).map λe=>(d.1,e)
 |_,_,_,_,_=>none
theorem aaj {b:n.den} {a:x.den}:kU n b [] x a=gJ n a:=by cases n<;>rfl
theorem dH.Ww {d:n.den} {a:x.den} {b:n.den} (c:gJ n a=some b):dH n d [] x a b:=by cases jb c;cases n<;>exact⟨rfl,rfl⟩
theorem lw:∀{k:List aV} {τ:ah} {g:τ.den} {f:ah} {h:f.den} {j:τ.den},kU τ g k f h=some j->dH τ g k f h j
 |[],τ,g,f,h,j,c=>by rw[aaj] at c;exact dH.Ww c
 |s::k,τ,g,f,h,j,c=>by
  cases τ<;>cases s<;>simp only[kU] at c<;>try (cases c;done)
  case osl.idx t i=>
   split at c
   ·rename_i l m;obtain⟨d,e,rfl⟩:=eb.1 c;exact⟨l,d,m,lw e,rfl⟩
   ·cases c
  case optr.deref t=>exact lw (τ:=t) c
  case st.unst t=>exact lw (τ:=t) c
  case pr.fst a b=>
   obtain⟨d,e,rfl⟩:=eb.1 c;exact⟨d,lw e,rfl⟩
  case pr.snd a b=>
   obtain⟨d,e,rfl⟩:=eb.1 c;exact⟨d,lw e,rfl⟩
def fU (a:Int):abW:=if 0<=a then some a.toNat else none
theorem Wk {c:Int} (a:fU c=some b):c=(b:Int):=by
 unfold fU at a;split at a
 ·cases a;omega
 ·cases a
def bh (b:Nat) (a:Int):abW:=if 0<=a/\a.toNat<b then some a.toNat else none
theorem Jy {c:Int} (a:bh l c=some b):c=(b:Int)/\b<l:=by
 unfold bh at a;split at a
 ·cases a;omega
 ·cases a
def bS (a:Nat):Option Unit:=if a<=fq then some () else none
theorem u4 {c:Unit} (a:bS b=some c):b<=fq:=by
 unfold bS at a;split at a
 ·assumption
 ·cases a
def h3 (b:IntKind) (c a:Int):abV:=if a≠0 then some (b.wrap (c.tdiv a)) else none
def gV (b a:Int):abV:=if a≠0 then some (b.tmod a) else none
def gW (a:IntKind) (c b:Int):abV:=if 0<=b then some (a.wrap (c*2^min b.toNat a.bits)) else none
def dm (b:IntKind) (c a:Int):abV:=if 0<=a then some (c.fdiv (2^min a.toNat b.bits)) else none
def dq (a:IntKind) (b c:Int):Int:=a.wrap (BitVec.ofInt a.bits b&&&BitVec.ofInt a.bits c).toNat
def eP (a:IntKind) (b c:Int):Int:=a.wrap (BitVec.ofInt a.bits b|||BitVec.ofInt a.bits c).toNat
def rH (a:IntKind) (b c:Int):Int:=a.wrap (BitVec.ofInt a.bits b^^^BitVec.ofInt a.bits c).toNat
def RV (a:IntKind) (b c:Int):Int:=a.wrap (BitVec.ofInt a.bits b&&&~~~BitVec.ofInt a.bits c).toNat
def uh (c:Option ak) (a:Nat):abW:=
 match c with
 |none=>some a
 |some (.val (.int _) b)=>fU b
 |some _=>none
theorem zb {c:Option ak} (a:uh c b=some l):qw c b l:=by
 unfold uh at a;unfold qw;split at a
 ·cases a;rfl
 ·exact Wk a
 ·cases a
def gj (b a c:Nat):Option Unit:=if b<=a/\a<=c then some () else none
theorem JS {c:Unit} (a:gj l b W=some c):l<=b/\b<=W:=by
 unfold gj at a;split at a
 ·assumption
 ·cases a
def vq (_:Nat):Option Unit:=some ()
def eo (a b:Int):abW:=if 0<=a/\a<=b/\b<=(fq:Int) then some a.toNat else none
open Classical in
def mM {b:Type} (c:Nat) (d a:Option b):Option b:=if c=0 then if d=a then a else none else a
theorem Wu {f g:Option a} {e:a} (c:mM b f g=some e):g=some e/\(b=0->f=some e):=by
 unfold mM at c;split at c
 ·split at c
  ·rename_i d;exact⟨c,λ_=>d.trans c⟩
  ·cases c
 ·rename_i d;exact⟨c,λh=>absurd h d⟩
def n3:ab1:=[0,1,28,2,29,14,24,3,30,22,20,15,25,17,4,8,31,27,13,23,21,19,16,7,26,12,18,6,11,5,10,9]
inductive CQ where
 |du (av:ak)
 |opt (α:Type) (o:Option α) (f:α->ak)
 |new (α:Type) (o:Option α) (t:α->aB) (d:Nat)
 |no
def je (tt:List (TypeId×ah)) (z:List (Nat×ah)) (k:List (Nat×aB)) (g:Operand->ak) (w:Nat) (v:Op):CQ:=
 match v with
 |.binOp v _ b e _=>match g b,g e with
  |.val (.int c) b,.val (.int A) e=>if c=A then
   (match v with
   |.add=>.du (.val (.int c) (c.wrap (b+e)))
   |.sub=>.du (.val (.int c) (c.wrap (b-e)))
   |.mul=>.du (.val (.int c) (c.wrap (b*e)))
   |.quo=>.opt Int (h3 c b e) (.val (.int c))
   |.rem=>.opt Int (gV b e) (.val (.int c))
   |.shl=>.opt Int (gW c b e) (.val (.int c))
   |.shr=>.opt Int (dm c b e) (.val (.int c))
   |.and=>.du (.val (.int c) (dq c b e))
   |.or=>.du (.val (.int c) (eP c b e))
   |.xor=>.du (.val (.int c) (rH c b e))
   |.andNot=>.du (.val (.int c) (RV c b e))
   |_=>.no) else
   (match v with
   |.shl=>.opt Int (gW c b e) (.val (.int c))
   |.shr=>.opt Int (dm c b e) (.val (.int c))
   |_=>.no)
  |_,_=>.no
 |.unOp .neg _ b=>match g b with
  |.val (.int c) b=>.du (.val (.int c) (c.wrap (0-b)))
  |_=>.no
 |.convert t p b=>match al tt t,al tt p,g b with
  |some (.int _),some (.int c),.val (.int _) b=>.du (.val (.int c) (c.wrap b))
  |_,_,_=>.no
 |.nilCheck b=>match g b with
  |.val (.ptr r a) b=>.opt a.den b λe=>.val (.ptr r a) (some e)
  |_=>.no
 |.indexAddr h b q=>match e7 tt h,g q with
  |some i,.val (.int _) q=>match g b with
   |.val (.a6 r a) j=>bif a5 i a then .opt a.den (aA j q) λe=>.val (.ptr r a) (some e) else .no
   |.ref id f=>match al k id with
    |some d=>match dO d.1 f with
     |some (.osl a)=>bif a5 i a then .opt Nat ((gA d.1 d.2 f (.osl a)).bind λj=>bh j.length q) λc=>.addr id (f++[.idx c]) else .no
     |_=>.no
    |none=>.no
   |.view id [] s u=>match al k id with
    |some d=>match d.1 with
     |.osl a=>bif a5 i a then .opt Nat (bh (u-s) q) λc=>.addr id [.idx (s+c)] else .no
     |_=>.no
    |none=>.no
   |_=>.no
  |_,_=>.no
 |.load h b=>match al tt h with
  |some i=>match g b with
   |.addr id f=>match al k id with
    |some d=>match dO d.1 f with
     |some a=>bif a5 i a&&a.pure then .opt a.den (gA d.1 d.2 f a) λe=>.val a e else .no
     |none=>.no
    |none=>.no
   |.ref id f=>match al k id with
    |some d=>match dO d.1 f with
     |some (.optr a)=>bif a5 i a&&a.pure then .opt a.den (gA d.1 d.2 (f++[.deref]) a) λe=>.val a e else .no
     |_=>.no
    |none=>.no
   |.val (.ptr _ a) b=>bif a5 i a then .opt a.den b λe=>.val a e else .no
   |_=>.no
  |none=>.no
 |.fieldAddr h b m=>match j1 tt h,g b with
  |some i,.val (.ptr r (.st a)) b=>bif a5 i a&&(dU a m).isSome then .opt a.den b λe=>(match pB a e m with
   |some n=>.val (.ptr r n.1) (some n.2)
   |none=>.dead) else .no
  |_,_=>.no
 |.slice h b s u none=>match e7 tt h with
  |some i=>match g b with
   |.val (.a6 r a) j=>bif a5 i a then
    .opt cZ ((uh (s.map g) 0).bind λl=>(uh (u.map g) j.length).bind λp=>(gj l p j.length).map λ_=>(l,p)) (λn=>.val (.a6 r a) ((j.take n.2).drop n.1)) else .no
   |.ref id f=>match al k id with
    |some d=>match dO d.1 f with
     |some (.osl a)=>bif a5 i a then
      .opt cZ ((gA d.1 d.2 f (.osl a)).bind λj=>(uh (s.map g) 0).bind λl=>(uh (u.map g) j.length).bind λp=>(gj l p j.length).bind λ_=>(vq j.length).map λ_=>(l,p)) (λn=>.view id f n.1 n.2) else .no
     |_=>.no
    |none=>.no
   |_=>.no
  |none=>.no
 |.makeSlice h l o=>match e7 tt h,al z w,al k w with
  |some i,some (.osl a),none=>match kw a,g l,g o with
   |some y,.val (.int _) l,.val (.int _) o=>bif a5 i a&&Nat.ble a.size 2000 then
    .new Nat (eo l o) (λm=>⟨.osl a,List.replicate m y⟩) w else .no
   |_,_,_=>.no
  |_,_,_=>.no
 |.index h b q=>match al tt h,g b,g q with
  |some .str,.cv (.string t),.val (.int _) m=>.opt Int (oG t m) (.val (.int .u8))
  |some .str,.val .str t,.val (.int _) m=>.opt Int (oG t m) (.val (.int .u8))
  |_,_,_=>.no
 |.lookup h b c B=>match jE tt h,g b,g c with
  |some i,.ref id f,.val (.int .i64) c=>match al k id with
   |some d=>match dO d.1 f with
    |some (.mp a)=>match kw a with
     |some y=>bif a5 i a then .opt (Option (List (Int×a.den)×Nat)) (gA d.1 d.2 f (.mp a)) λx=>Bv a x y c B else .no
     |none=>.no
    |_=>.no
   |none=>.no
  |_,_,_=>.no
 |.call o=>match o.callee,o.args.toList,o.argTypes.toList with
  |.builtin .len,[b],[h]=>match e7 tt h,g b with
   |some _,.ref id f=>match al k id with
    |some d=>match dO d.1 f with
     |some (.osl a)=>.opt (List a.den) (gA d.1 d.2 f (.osl a)) λj=>.val (.int .i64) (j.length:Int)
     |_=>.no
    |none=>.no
   |none,.ref id f=>match jE tt h,al k id with
    |some _,some d=>match dO d.1 f with
     |some (.mp a)=>.opt (Option (List (Int×a.den)×Nat)) (gA d.1 d.2 f (.mp a)) λx=>.val (.int .i64) (u7 x)
     |_=>.no
    |_,_=>.no
   |_,_=>.no
  |_,_,_=>.no
 |_=>.no
theorem I5:∀{t:ah} {y:t.den} {b:Nat},(dU t b).isSome=true->∃d,pB t y b=some d
 |.pr e c,y,0,_=>⟨_,rfl⟩
 |.pr e c,y,b+1,a=>by
  simp only[dU] at a;split at a
  ·rename_i d f;exact I5 (t:=c) (by rw[f];rfl)
  ·cases a
 |.int _,_,_,a=>by cases a
 |.bool,_,_,a=>by cases a
 |.str,_,_,a=>by cases a
 |.a6 _ _,_,_,a=>by cases a
 |.ptr _ _,_,_,a=>by cases a
 |.osl _,_,_,a=>by cases a
 |.optr _,_,_,a=>by cases a
 |.st _,_,_,a=>by cases a
 |.nil,_,_,a=>by cases a
 |.de,_,_,a=>by cases a
def CQ.K (g:CQ) (b:ak->List (Nat×aB)->Prop):Prop:=
 match g with
 |.du e=>b e []
 |.opt _ c f=>∃a,c=some a/\b (f a) []
 |.new _ c h d=>∃a,c=some a/\b (.ref d []) [(d,h a)]
 |.no=>False
theorem DW {tt:List (TypeId×ah)} {R:ak->List (Nat×aB)->Prop} (a:(je tt k e F b N).K R):(fo tt k e F b N).K R:=by
 unfold je at a;split at a
 ·rename_i N r m j ad;simp only[fo];split at a
  case h_2=>exact a.elim
  rename_i q m U j i W;simp only[i,W];split at a
  ·rename_i z;subst z;split at a
   ·simp only[km,if_true];exact⟨_,⟨trivial,rfl⟩,a⟩
   ·simp only[km,if_true];exact⟨_,⟨trivial,rfl⟩,a⟩
   ·simp only[km,if_true];exact⟨_,⟨trivial,rfl⟩,a⟩
   ·obtain⟨x,g,f⟩:=a;unfold h3 at g;split at g
    ·rename_i c;cases g;simp only[km,if_true];exact⟨_,⟨c,rfl⟩,f⟩
    ·cases g
   ·obtain⟨x,g,f⟩:=a;unfold gV at g;split at g
    ·rename_i c;cases g;simp only[km,if_true];exact⟨_,⟨c,rfl⟩,f⟩
    ·cases g
   ·obtain⟨x,g,f⟩:=a;unfold gW at g;split at g
    ·rename_i c;cases g;exact⟨_,⟨c,rfl⟩,f⟩
    ·cases g
   ·obtain⟨x,g,f⟩:=a;unfold dm at g;split at g
    ·rename_i c;cases g;exact⟨_,⟨c,rfl⟩,f⟩
    ·cases g
   ·simp only[km,if_true];exact⟨_,⟨trivial,rfl⟩,a⟩
   ·simp only[km,if_true];exact⟨_,⟨trivial,rfl⟩,a⟩
   ·simp only[km,if_true];exact⟨_,⟨trivial,rfl⟩,a⟩
   ·simp only[km,if_true];exact⟨_,⟨trivial,rfl⟩,a⟩
   ·exact a.elim
  ·split at a
   ·obtain⟨x,g,f⟩:=a;unfold gW at g;split at g
    ·rename_i c;cases g;exact⟨_,⟨c,rfl⟩,f⟩
    ·cases g
   ·obtain⟨x,g,f⟩:=a;unfold dm at g;split at g
    ·rename_i c;cases g;exact⟨_,⟨c,rfl⟩,f⟩
    ·cases g
   ·exact a.elim
 ·rename_i r m;simp only[fo];split at a
  case h_2=>exact a.elim
  rename_i q m i;rw[i];exact⟨_,rfl,a⟩
 ·rename_i V z m;simp only[fo,zl];split at a
  case h_2=>exact a.elim
  rename_i U q an m aj o i;rw[aj,o,i];exact⟨_,rfl,a⟩
 ·rename_i m;simp only[fo,ta];split at a
  case h_2=>exact a.elim
  rename_i G h m i;rw[i];obtain⟨j,rfl,f⟩:=a;exact⟨j,rfl,f⟩
 ·rename_i r m T;simp only[fo,sV];split at a
  case h_2=>exact a.elim
  rename_i l q T aj o;rw[aj,o];simp only;split at a
  ·rename_i G h E i;rw[i];simp only;cases d:a5 l h with
   |false=>rw[d] at a;exact a.elim
   |true=>
   rw[d] at a;obtain⟨j,c,f⟩:=a;exact⟨j,c,f⟩
  ·rename_i id B i;rw[i];simp only;split at a
   case h_2=>exact a.elim
   rename_i t n;rw[n];simp only;split at a
   case h_2=>exact a.elim
   rename_i h p;rw[p];simp only;cases d:a5 l h with
   |false=>rw[d] at a;exact a.elim
   |true=>
   rw[d] at a;obtain⟨j,c,f⟩:=a;obtain⟨E,P,c⟩:=c9.1 c;obtain⟨u,v⟩:=Jy c;exact⟨(E,j),⟨hh P,u,v⟩,f⟩
  ·rename_i id Z X i;rw[i];simp only;split at a
   case h_2=>exact a.elim
   rename_i t n;obtain⟨a0,m⟩:=t;rw[n];simp only at a|-;split at a
   case h_2=>exact a.elim
   rename_i h;simp only[dO];cases d:a5 l h with
   |false=>rw[d] at a;exact a.elim
   |true=>
   rw[d] at a;obtain⟨q,Y,f⟩:=a;obtain⟨u,v⟩:=Jy Y;exact⟨(m,q),⟨⟨rfl,rfl⟩,u,v⟩,f⟩
  ·exact a.elim
 ·rename_i r m;simp only[fo,s1];split at a
  case h_2=>exact a.elim
  rename_i l aj;rw[aj];simp only;split at a
  ·rename_i id B i;rw[i];simp only;split at a
   case h_2=>exact a.elim
   rename_i t n;rw[n];simp only;split at a
   case h_2=>exact a.elim
   rename_i h p;rw[p];simp only[tk];cases d:(a5 l h&&h.pure) with
   |false=>rw[d] at a;exact a.elim
   |true=>
   rw[d] at a;simp only[bg] at d;rw[d.1,d.2];obtain⟨j,c,f⟩:=a;exact⟨j,hh c,f⟩
  ·rename_i id B i;rw[i];simp only;split at a
   case h_2=>exact a.elim
   rename_i t n;rw[n];simp only;split at a
   case h_2=>exact a.elim
   rename_i h p;rw[p];simp only[tk];cases d:(a5 l h&&h.pure) with
   |false=>rw[d] at a;exact a.elim
   |true=>
   rw[d] at a;simp only[bg] at d;rw[d.1,d.2];obtain⟨j,c,f⟩:=a;exact⟨j,hh c,f⟩
  ·rename_i G h m i;rw[i];cases d:a5 l h with
   |false=>rw[d] at a;exact a.elim
   |true=>
   rw[d] at a;obtain⟨j,rfl,f⟩:=a;simp only[d,cond_true];exact f
  ·exact a.elim
 ·rename_i r m Q;simp only[fo,sM];split at a
  case h_2=>exact a.elim
  rename_i l G h m aj i;rw[aj,i];cases d:(a5 l h&&(dU h Q).isSome) with
  |false=>rw[d] at a;exact a.elim
  |true=>
  rw[d] at a;simp only[bg] at d;obtain⟨j,rfl,f⟩:=a;obtain⟨av,S⟩:=I5 (y:=j) d.2;simp only[S] at f;simp only[d.1,cond_true,S];exact f
 ·rename_i r m Z X;simp only[fo,ts];split at a
  case h_2=>exact a.elim
  rename_i l aj;rw[aj];simp only;split at a
  ·rename_i G h E i;rw[i];simp only;cases d:a5 l h with
   |false=>rw[d] at a;exact a.elim
   |true=>
   rw[d] at a;obtain⟨j,c,f⟩:=a;obtain⟨w,M,c⟩:=c9.1 c;obtain⟨z,L,c⟩:=c9.1 c;obtain⟨ab,O,rfl⟩:=eb.1 c;obtain⟨u,v⟩:=JS O;exact⟨(w,z),⟨zb M,zb L,u,v⟩,f⟩
  ·rename_i id B i;rw[i];simp only;split at a
   case h_2=>exact a.elim
   rename_i t n;rw[n];simp only;split at a
   case h_2=>exact a.elim
   rename_i h p;rw[p];simp only;cases d:a5 l h with
   |false=>rw[d] at a;exact a.elim
   |true=>
   rw[d] at a;obtain⟨j,c,f⟩:=a;obtain⟨E,P,c⟩:=c9.1 c;obtain⟨w,M,c⟩:=c9.1 c;obtain⟨z,L,c⟩:=c9.1 c;obtain⟨ab,O,c⟩:=c9.1 c;obtain⟨fa,am,rfl⟩:=eb.1 c;obtain⟨u,v⟩:=JS O;exact⟨(E,w,z),⟨hh P,zb M,zb L,u,v⟩,f⟩
  ·exact a.elim
 ·rename_i r w C;simp only[fo,s5];split at a
  case h_2=>exact a.elim
  rename_i l h aj o s;rw[aj,o,s];simp only;split at a
  case h_2=>exact a.elim
  rename_i x q w U C A D I;rw[A,D,I];simp only;cases d:(a5 l h&&Nat.ble h.size 2000) with
  |false=>rw[d] at a;exact a.elim
  |true=>
  rw[d] at a;obtain⟨j,c,f⟩:=a;unfold eo at c;split at c
  ·rename_i J;cases c;exact⟨(w.toNat,C.toNat),⟨(qc J.1).symm,(qc (Int.le_trans J.1 J.2.1)).symm,by show w.toNat<=C.toNat;omega,by show C.toNat<=fq;omega⟩,f⟩
  ·cases c
 ·rename_i r m T;simp only[fo,Cu];split at a
  ·rename_i V q Q aj o s;rw[aj,o,s];obtain⟨H,d,f⟩:=a;exact⟨H,d,f⟩
  ·rename_i V q Q aj o s;rw[aj,o,s];obtain⟨H,d,f⟩:=a;exact⟨H,d,f⟩
  ·exact a.elim
 ·rename_i r m q ap;simp only[fo,s2];split at a
  case h_2=>exact a.elim
  rename_i l id B q aj o s;rw[aj,o,s];simp only;split at a
  case h_2=>exact a.elim
  rename_i t n;rw[n];simp only;split at a
  case h_2=>exact a.elim
  rename_i h p;rw[p];simp only;split at a
  case h_2=>exact a.elim
  rename_i x g;rw[g];simp only;cases d:a5 l h with
  |false=>rw[d] at a;exact a.elim
  |true=>
  rw[d] at a;obtain⟨j,c,f⟩:=a;exact⟨j,hh c,f⟩
 ·rename_i C;simp only[fo];split at a
  ·rename_i m r aj o s;rw[aj,o,s];simp only;split at a
   ·rename_i l id B A D;rw[A,D];simp only[sZ,A];split at a
    case h_2=>exact a.elim
    rename_i t n;rw[n];simp only;split at a
    case h_2=>exact a.elim
    rename_i h p;rw[p];obtain⟨j,c,f⟩:=a;exact⟨j,hh c,f⟩
   ·rename_i id B A D;rw[A,D];simp only[s7];split at a
    case h_2=>exact a.elim
    rename_i l t I n;rw[I,n];simp only;split at a
    case h_2=>exact a.elim
    rename_i h p;rw[p];obtain⟨j,c,f⟩:=a;exact⟨j,hh c,f⟩
   ·exact a.elim
  ·exact a.elim
 ·exact a.elim
def hZ {e:Type} (c d:List e) (a b:Nat):List e:=c.take a++(d.take (b-a)++c.drop (a+min d.length (b-a)))
end
section
def xF:ak->Bool
 |.val _ _=>true
 |_=>false
def EE:ak->Bool
 |.val _ _=>true
 |.dt _ a=>a.all xF
 |_=>false
theorem EF (b:EE d=true):∀id∈d.ids,False:=by
 intro id a;cases d with
 |val g f=>simp[ak.ids] at a
 |dt h c=>
  have b:c.all xF=true:=b;have:∀c:List ak,c.all xF=true->∀id∈ak.mF c,False:=by
   intro c
   induction c with
   |nil=>intro _ id a;simp[ak.mF] at a
   |cons d c e=>
    intro b id a;simp only[rP,bg] at b;simp only[ak.mF,eH] at a;rcases a with a|a
    ·cases d with
     |val g f=>simp[ak.ids] at a
     |_=>cases b.1
    ·exact e b.2 id a
  exact this c b id a
 |_=>cases b
def nN (C:dA) (c:List (Nat×ak)):Prop:=
 (∀a,C.I0 a\/C.B a->a<C.w0.heap.size/\¬C.F0 a)/\
 ∀b∈c,b.1∈C.pin/\EE b.2=true/\bG (bc C.I0 C.B) C.w0 [] (λ_=>[]) (λ_=>[]) b.2 (C.vs b.1)
section
variable {E:dY} {C:dA}
theorem nN.nil (b:∀a,C.I0 a\/C.B a->a<C.w0.heap.size/\¬C.F0 a):nN C []:=⟨b,λc b=>by cases b⟩
theorem UM (b c:List (Nat×ak)) (a:Nat):gt (b++c) a=match al b a with|some d=>d|none=>gt c a:=by unfold gt;rw[iR];cases al b a<;>rfl
theorem xM {e:Type}:∀{c:List (Nat×e)} {b:Nat} {d:e},al c b=some d->(b,d)∈c
 |[],_,_,a=>by cases a
 |(g,v0)::c,b,d,a=>by
  rw[bY] at a;split at a
  ·rename_i f;cases a;subst f;exact iH ..
  ·exact e0 _ (xM a)
theorem ff.kg (f:nN C D) {j:abS} (n:ff C i j v):ff C ⟨D++i.g,i.h⟩ j v:=by
 obtain⟨k,w,m,b⟩:=n;refine⟨k,w,m,{b with tmp:=λc=>?_}⟩;show bG _ _ _ _ _ (gt (D++i.g) c) _;rw[UM];split
 ·rename_i l s;obtain⟨o,p,d⟩:=f.2 _ (xM s);have d:bG (bc C.I0 C.B) C.w0 [] (λ_=>[]) (λ_=>[]) l (C.vs c):=d;rw[b.pin c o];refine d.rh (λt a e=>?_) (λid r=>(EF p id r).elim);have q:C.I0 a\/C.B a:=l3 e;obtain⟨ar,u⟩:=f.1 a q;refine⟨?_,bU.of_heap (b.frame a ar u)⟩;cases t
  ·exact b.i0 a e
  ·exact e.imp (b.i0 a) id
 ·exact b.tmp c
theorem J.kg {d:List (Nat×ak)} (k:nN C d) {c:Code} {a:aH} {b:Exit->aH->Prop} (f:J E C c ⟨d++a.g,a.h⟩ b):J E C c a b:=
 λe l i j=>f e l (i.kg k) j
def q0 (a:List (Nat×ak)):ab0->Option (List (Nat×ak))
 |[]=>some []
 |k::c=>match gt a k with
  |.val g f=>(q0 a c).map λb=>(k,.val g f)::b
  |.dt e d=>bif d.all xF then(q0 a c).map λb=>(k,.dt e d)::b else none
  |_=>none
theorem Ey {l:List (Nat×ak)}:∀{j:ab0} {d:List (Nat×ak)},q0 l j=some d->∀c∈d,c.1∈j/\EE c.2=true/\gt l c.1=c.2
 |[],d,a,c,b=>by cases a;cases b
 |k::j,d,a,c,b=>by
  simp only[q0] at a;split at a
  ·rename_i q p i;obtain⟨n,h,rfl⟩:=eb.1 a;rcases dh.1 b with rfl|b
   ·exact⟨iH ..,rfl,i⟩
   ·obtain⟨e,f⟩:=Ey h c b;exact⟨e0 _ e,f⟩
  ·rename_i o m i;cases g:m.all xF with
   |false=>rw[g] at a;cases a
   |true=>
   rw[g] at a;obtain⟨n,h,rfl⟩:=eb.1 a;rcases dh.1 b with rfl|b
   ·exact⟨iH ..,g,i⟩
   ·obtain⟨e,f⟩:=Ey h c b;exact⟨e0 _ e,f⟩
  ·cases a
theorem J.keep {N:Code} {L:List (Nat×ak)} {M:Exit->aH->Prop} (r:nN C D) (an:q0 i.g f=some L) (d:∀l:dA,l.n=C.n->l.pin=f++C.pin->nN l (L++D)->(∀u,r2 C u->r2 l u)->(jL E C.I0 C.w0->jL E l.I0 l.w0)->J E l N i M):J E C N i M:=by
 rintro v y ⟨z,P,A,b⟩ Z
 let l:dA:={I0:=z,B:=C.B,F0:=λa=>∃id e,al i.h id=some e/\a∈A id,w0:=y,n:=C.n,pin:=f++C.pin,vs:=λq=>v.tmps.getD q undef}
 have X:bE l i v.tmps y z P A:=
  {n:=b.n,i0:=λ_ d=>d,i1:=λ_ d=>.inl d,ib:=b.ib,tree:=λid e k=>⟨(b.tree id e k).1,(b.tree id e k).2.1,λa c=>⟨((b.tree id e k).2.2 a c).1,((b.tree id e k).2.2 a c).2.1,((b.tree id e k).2.2 a c).2.2.1,.inr ⟨id,e,k,c⟩⟩⟩,dis:=b.dis,tmp:=b.tmp,frame:=λ_ _ _=>rfl,evo:=λ_ _=>.refl _ _,size:=aY _,os:=rfl,tape:=rfl,output:=rfl,pin:=λq _=>rfl}
 have am:nN l (L++D):=by
  refine⟨λa c=>⟨b.ib a c,?_⟩,λx p=>?_⟩
  ·rintro⟨id,e,k,Y⟩;obtain⟨ar,t,_⟩:=(b.tree id e k).2.2 a Y;exact c.elim ar t
  ·rcases eH.1 p with p|p
   ·obtain⟨m,o,F⟩:=Ey an x p;refine⟨eH.2 (.inl m),o,?_⟩;have:=b.tmp x.1;rw[F] at this;exact this.rh (λO a s=>⟨s,bU.refl _ _⟩) (λid H=>(EF o id H).elim)
   ·obtain⟨m,o,F⟩:=r.2 x p;refine⟨eH.2 (.inr m),o,?_⟩
    ·show bG _ _ _ _ _ _ (v.tmps.getD x.1 undef);rw[b.pin _ m];refine F.rh (λO a s=>?_) (λid H=>(EF o id H).elim);obtain⟨ar,t⟩:=r.1 a (l3 s);refine⟨?_,bU.of_heap (b.frame a ar t)⟩;cases O
     ·exact b.i0 a s
     ·exact s.imp (b.i0 a) id
 have av:∀u,r2 C u->r2 l u:=by
  rintro(_|⟨q,c1,c2⟩) ap
  ·trivial
  obtain⟨Q,R,a,K,co,bs,S,T,bB,ce⟩:=ap;refine⟨k4 _ Q,λw I=>k4 _ (R w I),a,K,co,(b.pin q Q).trans bs,hp S b.size,?_,?_,?_⟩
  ·rintro⟨id,e,k,c⟩;rcases((b.tree id e k).2.2 a c).2.2.2 with m|m
   ·omega
   ·exact T m
  ·have c:=b.frame a S T;rw[<-bB];unfold World.cell?;rw[show y.heap[(⟨a,K,none⟩:Addr).block]?=C.w0.heap[(⟨a,K,none⟩:Addr).block]? from c]
  ·rw[ce];exact hU λw I=>(b.pin w (R w I)).symm
 refine wp_mono (d l rfl rfl am av (λW=>b.glob r.1 W) v y ⟨z,P,A,X⟩ Z) ?_;rintro cv cs dl ⟨ci,p,⟨U,bl,V,j⟩,ab⟩;have G:∀a,l.F0 a->C.w0.heap.size<=a\/C.F0 a:=(by rintro a ⟨id,e,k,c⟩;exact((b.tree id e k).2.2 a c).2.2.2);refine⟨ci,p,⟨U,bl,V,?_⟩,ab⟩;refine{n:=j.n,i0:=λa c=>j.i0 a (b.i0 a c),i1:=λa c=>?_,ib:=j.ib,tree:=λid e k=>?_,dis:=j.dis,tmp:=j.tmp,frame:=λa m o=>?_,evo:=λa c=>(b.evo a c).trans (j.evo a (hp c b.size)),size:=dn b.size j.size,os:=j.os.trans b.os,tape:=j.tape.trans b.tape,output:=j.output.trans b.output,pin:=λq r=>?_}
 ·rcases j.i1 a c with d|d|d
  ·exact b.i1 a d
  ·exact .inr (.inl (dn b.size d))
  ·exact .inr (G a d)
 ·obtain⟨ar,t,a0⟩:=j.tree id e k;refine⟨ar,t,λa c=>?_⟩;obtain⟨a3,a4,bd,aU⟩:=a0 a c;refine⟨a3,a4,bd,?_⟩;rcases aU with d|d
  ·exact .inl (dn b.size d)
  ·exact G a d
 ·refine(j.frame a (hp m b.size) ?_).trans (b.frame a m o);intro ad;rcases G a ad with d|d
  ·omega
  ·exact o d
 ·rw[j.pin q (eH.2 (.inr r))];exact b.pin q r
end
end
structure br where
 d:Option (Nat×ak)
 S:ab0
 keep:List (Nat×List aV)
 put:List (Nat×aB)
variable{p:br}
def lZ (a:ab0) (c:List (Nat×List aV)) (b:List (Nat×ak)):List (Nat×ak):=match a with
 |[]=>b
 |_=>kill a c b
def px (a:ab0) (b:List (Nat×aB)):List (Nat×aB):=match a with
 |[]=>b
 |_=>del a b
def br.app (a:br) (b:aH):aH:=⟨match a.d with
 |some c=>c::lZ a.S a.keep b.g
 |none=>lZ a.S a.keep b.g,a.put++px a.S b.h⟩
theorem Vf (d:List (Nat×List aV)) (a:ak):ej [] d a=a:=by
 have b:∀a,dB [] d a=a:=λa=>(by have:(a.ids.any λc=>dj c [])=false:=(by rw[tO];intro c _;simp[dj]);simp only[dB,ak.dR,this,Bool.false_and,cond_false]);cases a with
 |dC e=>simp only[ej,hU (λa _=>b a),List.map_id']
 |_=>exact b _
theorem JI (c:List (Nat×List aV)):∀b:List (Nat×ak),kill [] c b=b
 |[]=>rfl
 |(k,a)::b=>by have:=JI c b;simp only[kill,er,Vf] at this|-;rw[this]
theorem Iq:∀a:List (Nat×aB),del [] a=a
 |[]=>rfl
 |x::a=>by have:=Iq a;simp only[del] at this|-;rw[iD,if_pos (by simp[dj]),this]
theorem oj (a:ab0) (c:List (Nat×List aV)) (b:List (Nat×ak)):lZ a c b=kill a c b:=by
 cases a
 ·exact(JI c b).symm
 ·rfl
theorem sC (a:ab0) (b:List (Nat×aB)):px a b=del a b:=by
 cases a
 ·exact(Iq b).symm
 ·rfl
def pZ {k:Type} (tt:List (TypeId×ah)) (f:List (Nat×aB)) (m:TypeId) (q v:ak) (e:br->Option k):Option k:=
 match pQ f q with
 |none=>none
 |some (
  id,p)=>match al f id,al tt m with
  |some a,some o=>match dO a.1 p with
   |none=>none
   |some b=>bif a5 o b then match v with
    |.ref c g=>match al f c with
     |some l=>bif Nat.beq id c then none else(gA l.1 l.2 g b).bind λh=>(kU a.1 a.2 p b h).bind λd=>e ⟨none,[id,c],[(id,p)],[(id,⟨a.1,d⟩)]⟩
     |none=>none
    |.app c g i j n=>match gJ (τ:=.osl i) b j with
     |some _=>bif Nat.beq c id&&j8 g p then(gA a.1 a.2 p (.osl i)).bind λr=>(kU a.1 a.2 p (.osl i) (r++j)).bind λd=>e ⟨none,id::n,[(id,p)],[(id,⟨a.1,d⟩)]⟩ else none
     |none=>none
    |v=>match coe b v with
     |some h=>(kU a.1 a.2 p b h).bind λd=>e ⟨none,[id],[(id,p)],[(id,⟨a.1,d⟩)]⟩
     |none=>none
   else none
  |_,_=>none
theorem aaI {s:a} {o:br->Option a} {tt:List (TypeId×ah)} (b:pZ tt i.h c t d o=some s) (m:∀p,o p=some s->u (p.app i)):(Ct tt i c t d).K u:=by
 unfold pZ at b;unfold Ct;split at b
 ·cases b
 rename_i id F A;rw[A];simp only;split at b
 case h_2=>cases b
 rename_i L G B z;obtain⟨O,N⟩:=L;rw[B,z];simp only at b|-;split at b
 ·cases b
 rename_i I E;rw[E];simp only;cases q:a5 G I with
 |false=>rw[q] at b;cases b
 |true=>
 rw[q] at b;simp only[cond_true] at b|-;split at b
 ·rename_i f g;split at b
  case h_2=>cases b
  rename_i J C;obtain⟨P,M⟩:=J;cases e:Nat.beq id f with
  |true=>rw[e] at b;cases b
  |false=>
  rw[e] at b;obtain⟨n,j,b⟩:=c9.1 b;obtain⟨l,k,b⟩:=c9.1 b;simp only[C,e,cond_false];exact⟨(n,l),⟨hh j,lw k⟩,m _ b⟩
 ·rename_i f g w v r;split at b
  case h_2=>cases b
  rename_i n j;cases jb j;cases e:(Nat.beq f id&&j8 g F) with
  |false=>rw[e] at b;cases b
  |true=>
  rw[e] at b;simp only[bg] at e;obtain⟨H,D,b⟩:=c9.1 b;obtain⟨l,k,b⟩:=c9.1 b;simp only[dif_pos];exact⟨(H,l),⟨es e.1,j8.ok e.2,hh D,lw k⟩,m _ b⟩
 ·rename_i d x y;split at b
  case h_2=>cases b
  rename_i n j;obtain⟨l,k,b⟩:=c9.1 b;split
  ·rename_i f g;exact(x f g rfl).elim
  ·rename_i f g w v r;exact(y f g w v r rfl).elim
  ·rw[j];exact⟨l,lw k,m _ b⟩
def jJ (e:List (Nat×aB)) (a:ah) (i:ak):Option (List a.den):=
 match i with
 |.val (.a6 _ h) d=>gJ (τ:=.osl h) (.osl a) d
 |.cv (.slice none 0 0)=>some []
 |.ref id c=>match al e id with
  |some b=>bif a.pure then gA b.1 b.2 c (.osl a) else none
  |none=>none
 |.view id c g f=>match al e id with
  |some b=>bif a.pure then(gA b.1 b.2 c (.osl a)).bind λd=>some ((d.take f).drop g) else none
  |none=>none
 |_=>none
def kl.CM {c:ah} (e:kl c) (b:List c.den):Prop:=
 match e with
 |.du f=>f=b
 |.part _ g d=>∃a,g a/\d a=b
 |.bad=>False
theorem yC {f:List n.den} (a:jJ e n d=some f):(p5 e n d).CM f:=by
 unfold jJ at a;unfold p5;split at a
 ·rename_i p q h;cases jb a;simp only[dif_pos];rfl
 ·cases a;rfl
 ·rename_i id j;split at a
  case h_2=>cases a
  rename_i g c;obtain⟨l,k⟩:=g;simp only[c];cases b:n.pure with
  |false=>rw[b] at a;cases a
  |true=>rw[b] at a;exact⟨f,hh a,rfl⟩
 ·rename_i id j o m;split at a
  case h_2=>cases a
  rename_i g c;obtain⟨l,k⟩:=g;simp only[c];cases b:n.pure with
  |false=>rw[b] at a;cases a
  |true=>
   rw[b] at a;obtain⟨h,i,a⟩:=c9.1 a;cases a;exact⟨h,hh i,rfl⟩
 ·cases a
theorem kl.CM.to {d:ah} {c:kl d} {a:List d.den} (b:c.CM a) {g:Nat->Prop} {f:List d.den->aH} {e:aH->Prop} (h:g a.length) (i:e (f a)):(c.to g f).K e:=by
 cases c with
 |du l=>obtain rfl:l=a:=b;exact⟨(),h,i⟩
 |part n o m=>obtain⟨k,j,rfl⟩:=b;exact⟨k,⟨j,h⟩,i⟩
 |bad=>exact b.elim
def nf {n:Type} (tt:List (TypeId×ah)) (p:List (Nat×ah)) (d:List (Nat×aB)) (b:Nat) (o:TypeId) (q g:ak) (f:br->Option n):Option n:=
 match e7 tt o with
 |none=>none
 |some i=>
  match q with
  |.ref id []=>match al d id with
   |some ⟨.osl a,e⟩=>bif a5 i a&&Nat.ble a.size 1300 then
    match a.pure with
    |true=>(jJ d a g).bind λc=>(bS (e.length+c.length)).bind λ_=>f ⟨some (b,.ref b []),[id,b],[],[(b,⟨.osl a,e++c⟩)]⟩
    |false=>match g with
     |.ref k []=>match al d k with
      |some r=>match gJ (.osl a) r.2 with
       |some c=>bif Nat.beq id k then none else(bS (e.length+List.length (α:=a.den) c)).bind λ_=>f ⟨some (b,.ref b []),[id,k,b],[],[(b,⟨.osl a,List.append (α:=a.den) e c⟩)]⟩
       |none=>none
      |none=>none
     |_=>none
    else none
   |_=>none
  |.ref id h=>match al d id,al d b with
   |some j,none=>match dO j.1 h with
    |some (.osl a)=>bif a5 i a&&Nat.ble a.size 1300&&a.ix then
     (gA j.1 j.2 h (.osl a)).bind λe=>(jJ d a g).bind λc=>(bS (List.length (α:=a.den) e+c.length)).bind λ_=>
      f ⟨some (b,.app id h a c [b]),[id],[(id,h),(id,[])],[(b,⟨.de,()⟩),(id,j)]⟩
     else none
    |_=>none
   |_,_=>none
  |.view id [] m l=>match al d id with
   |some ⟨.osl a,e⟩=>bif a5 i a&&Nat.ble a.size 1300 then
    (jJ d a g).bind λc=>(bS (List.length (α:=a.den) ((e.take l).drop m)+c.length)).bind λ_=>f ⟨some (b,.ref b []),[id,b],[],[(b,⟨.osl a,(e.take l).drop m++c⟩)]⟩
    else none
   |_=>none
  |.cv (.slice none 0 0)=>match al p b with
   |some (.osl a)=>bif a5 i a&&Nat.ble a.size 1300 then
    (jJ d a g).bind λc=>(bS c.length).bind λ_=>f ⟨some (b,.ref b []),[b],[],[(b,⟨.osl a,c⟩)]⟩
    else none
   |_=>none
  |_=>none
theorem R0 {A:a} {x:br->Option a} {tt:List (TypeId×ah)} (e:nf tt k i.h b c d t x=some A) (m:∀y,x y=some A->u (y.app i)):(y4 tt k i b c d t).K u:=by
 unfold nf at e;unfold y4;split at e
 ·cases e
 rename_i s F;rw[F];simp only;split at e
 ·rename_i id;simp only;split at e
  case h_2=>cases e
  rename_i l v o;rw[o];simp only;cases g:(a5 s l&&Nat.ble l.size 1300) with
  |false=>rw[g] at e;cases e
  |true=>
  rw[g] at e;simp only[cond_true] at e|-;split at e
  ·rename_i n;rw[n];obtain⟨q,f,e⟩:=c9.1 e;obtain⟨_,j,e⟩:=c9.1 e;exact(yC f).to (u4 j) (m _ e)
  ·rename_i n;rw[n];split at e
   case h_2=>cases e
   rename_i H;split at e
   case h_2=>cases e
   rename_i M E;obtain⟨V,R⟩:=M;split at e
   case h_2=>cases e
   rename_i q f;cases jb f;cases w:Nat.beq id H with
   |true=>rw[w] at e;cases e
   |false=>
   rw[w] at e;obtain⟨_,j,e⟩:=c9.1 e;simp only[E,dif_pos,w,cond_false];exact⟨(),u4 j,m _ e⟩
 ·rename_i id z n;split at e
  case h_2=>cases e
  rename_i L o D;obtain⟨U,S⟩:=L;simp only at e;split at e
  case h_2=>cases e
  rename_i l G;cases g:(a5 s l&&Nat.ble l.size 1300&&l.ix) with
  |false=>rw[g] at e;cases e
  |true=>
  rw[g] at e;obtain⟨v,r,e⟩:=c9.1 e;obtain⟨q,f,e⟩:=c9.1 e;obtain⟨_,j,e⟩:=c9.1 e;have j:=u4 j;have f:=yC f;have r:=hh r;cases z with
  |nil=>exact(n rfl).elim
  |cons Q z=>
  simp only[o,D,G,g,cond_true];split
  ·rename_i J p;rw[p] at f;obtain rfl:J=q:=f;exact⟨v,⟨r,j⟩,m _ e⟩
  ·rename_i T W N p;rw[p] at f;obtain⟨I,B,rfl⟩:=f;exact⟨(v,I),⟨r,B,j⟩,m _ e⟩
  ·rename_i p;rw[p] at f;exact f.elim
 ·rename_i id P O;simp only;split at e
  case h_2=>cases e
  rename_i l v o;rw[o];simp only;cases g:(a5 s l&&Nat.ble l.size 1300) with
  |false=>rw[g] at e;cases e
  |true=>
  rw[g] at e;simp only[cond_true] at e|-;obtain⟨q,f,e⟩:=c9.1 e;obtain⟨_,j,e⟩:=c9.1 e;exact(yC f).to (u4 j) (m _ e)
 ·simp only;split at e
  case h_2=>cases e
  rename_i l C;rw[C];simp only;cases g:(a5 s l&&Nat.ble l.size 1300) with
  |false=>rw[g] at e;cases e
  |true=>
  rw[g] at e;simp only[cond_true] at e|-;obtain⟨q,f,e⟩:=c9.1 e;obtain⟨_,j,e⟩:=c9.1 e;exact(yC f).to (u4 j) (m _ e)
 ·cases e
def n0 (d:List (Nat×ah)) (c:List (Nat×aB)) (a:Nat) (h:ak):Option br:=
 match h with
 |.ref id []=>match al c id with
  |some b=>some ⟨some (a,.ref a []),[id,a],[],[(a,b)]⟩
  |none=>none
 |.ref id g=>bif Nat.beq id a then none else some ⟨some (a,.ref id g),[a],[],[]⟩
 |.view id [] f e=>match al c id with
  |some ⟨.osl b,i⟩=>some ⟨some (a,.ref a []),[id,a],[],[(a,⟨.osl b,(i.take e).drop f⟩)]⟩
  |_=>none
 |.cv (.slice none 0 0)=>match al d a with
  |some (.osl b)=>some ⟨some (a,.ref a []),[a],[],[(a,⟨.osl b,[]⟩)]⟩
  |_=>none
 |_=>none
theorem Sc (a:n0 k i.h b d=some p) (e:u (p.app i)):(y6 k i b d).K u:=by
 unfold n0 at a;unfold y6;split at a
 ·split at a
  ·rename_i j c;cases a;simp only[c];exact e
  ·cases a
 ·rename_i id g l;cases f:Nat.beq id b with
  |true=>rw[f] at a;cases a
  |false=>
  rw[f] at a;cases a;cases g with
  |nil=>exact(l rfl).elim
  |cons m g=>simp only[f,cond_false];exact e
 ·split at a
  ·rename_i j n c;cases a;simp only[c];exact e
  ·cases a
 ·split at a
  ·rename_i j c;cases a;simp only[c];exact e
  ·cases a
 ·cases a
section
section
variable {E:dY} {C:dA} {st:aH} {a:Act} {w w':World} {I:Nat->Prop} {rt:Nat->abU} {fp:Nat->ab0} {o:Oper} {Q:aH->Prop}
theorem dz.own {S:ab0} {t:aB} {cs:abU} {f:ab0} {v:Value} {next:Act->World->Prop} {u:Exit->Act->World->Prop} (A:o.dst=some b) (F:C.ok b) (m:bE C st a.tmps w I rt fp) (J:∀r l w',Q r->l.defers=a.defers->ff C r l.tmps w'->next l w') (D:b∈S\/al st.h b=none) (M:(execOp a.eval o).run E.P w=.ok (.value v) w') (e:gH w w') (N:v=bL t.1 cs) (L:aN (bc I C.B) w' t.1 cs t.2 f) (G:f.Nodup) (j:∀c∈f,(w.heap.size<=c/\c<w'.heap.size)\/∃q∈S,∃R,al st.h q=some R/\c∈fp q) (K:Q ⟨(b,.ref b [])::kill S [] st.g,(b,t)::del S st.h⟩):o.wp E.P a w next u:=by
 have k:=m.bZ (lJ.one (st:=st) (C:=C) (rt:=rt) (w':=w') (I':=I) (S:=S) (d:=b) (t:=t) (cs:=cs) (f:=f) D e.size e.os e.tape e.output (λc j _=>e.heap c j) (λc j=>(bU.of_heap (e.heap c j)).2) (λ_ i=>i) (λ_ i=>.inl i) L G (λc z=>by
  rcases j c z with⟨x,y⟩|⟨p,H,s,k,n⟩
  ·exact⟨λi=>by have:=m.ib c (.inl i);omega,y,.inl x⟩
  ·obtain⟨ar,T,O,U⟩:=(m.tree p s k).2.2 c n;exact⟨ar,hp O e.size,.inr ⟨p,H,s,k,n⟩⟩))
 unfold Oper.wp;rw[M];show next (a.put o.dst v) w'
 rw[A];refine J _ _ _ K rfl ⟨_,_,_,k.put F (av:=.ref b []) ?_⟩;rw[N];refine .ref (t:=t) (loc:=none) (by rw[iR,bY,if_pos rfl];rfl) ?_;rw[BE];exact aP.here
def vl (e:List (Nat×aB)) (a:ah):ak->Option (aB×ab0)
 |.val d b=>bif a5 a d then some (⟨d,b⟩,[]) else none
 |.cv f=>match hu a f.cells.toList with
  |some b=>some (⟨a,b⟩,[])
  |none=>none
 |.ref id []=>match al e id with
  |some c=>bif a5 a c.1 then some (c,[id]) else none
  |none=>none
 |_=>none
theorem LD {h:dd->Nat->Prop} (n:∀id t,al e id=some t->aN h w t.1 (rt id) t.2 (fp id)) {a:ah} (k:dM s a c) (j:bG h w e rt fp d H) {t:aB} {ids:ab0} (b:vl e a d=some (t,ids)):aN h w t.1 H.cells.toList t.2 (ids.map fp).flatten/\t.1.size=a.size/\∀id∈ids,∃r,al e id=some r:=by
 unfold vl at b;split at b
 ·rename_i v u;cases f:a5 a v with
  |false=>rw[f] at b;cases b
  |true=>
   rw[f] at b;cases b;cases j with|val g=>
   rw[nB (k.lay f) g.len g.one];exact⟨g,(a5.size f).symm,ac⟩
 ·rename_i y;split at b
  ·rename_i u p;cases b;cases j;exact⟨n6 p,rfl,ac⟩
  ·cases b
 ·rename_i id;split at b
  ·rename_i q i;cases f:a5 a q.1 with
   |false=>rw[f] at b;cases b
   |true=>
    rw[f] at b;cases b;cases j with|ref m o=>
    rw[i] at m;cases m;obtain⟨rfl,rfl,rfl⟩:=aP.eX.1 o;have g:=n id _ i;rw[nB (k.lay f) g.len g.one];refine⟨by simpa using g,(a5.size f).symm,?_⟩;intro x l;rw[eS] at l;subst l;exact⟨_,i⟩
  ·cases b
 ·cases b
def li (e:List (Nat×aB)) (d:Operand->ak) (g:List (Nat×Operand)):ah->Nat->Option (aB×ab0)
 |.pr a h,f=>
  match(match kq g f with
   |none=>match kw a with
    |some i=>some ((⟨a,i⟩:aB),([]:ab0))
    |none=>none
   |some b=>vl e a (d b)),li e d g h (f+1) with
  |some b,some c=>some (⟨.pr b.1.1 c.1.1,(b.1.2,c.1.2)⟩,b.2++c.2)
  |_,_=>none
 |.nil,_=>some (⟨.nil,()⟩,[])
 |_,_=>none
theorem Kh {F:Program} {g:dd->Nat->Prop} {b:List (Nat×aB)} (B:∀id t,al b id=some t->aN g w t.1 (rt id) t.2 (fp id)) {v:Operand->ak} {l:Operand->Value} (A:∀c,bG g w b rt fp (v c) (l c)) {parts:List (Nat×Operand)} {cells:abU}:∀{u:ah} {n:Nat} {G:List Field} {off:Nat} {zs:abU} {t:aB} {ids:ab0},hn F u G off zs->li b v parts u n=some (t,ids)->cells.length=off+u.size->(∀d r e,dU u d=some (r,e)->(∀c,kq parts (n+d)=some c->(l c).cells.size=e.size/\(cells.drop (off+dx u d)).take e.size=(l c).cells.toList)/\(kq parts (n+d)=none->(cells.drop (off+dx u d)).take e.size=(zs.drop (dx u d)).take e.size))->aN g w t.1 (cells.drop off) t.2 (ids.map fp).flatten/\t.1.size=u.size/\∀id∈ids,∃u,al b id=some u
 |.pr a k,n,O::V,off,zs,t,ids,z,f,p,m=>by
  simp only[li] at f;split at f
  case h_2=>cases f
  rename_i c s i J;cases f;obtain⟨P,x,Q,⟨R,W,ar,M,N⟩,H⟩:=z;have o:=m 0 _ a rfl;simp only[jM,dx,ml] at o;have j:aN g w c.1.1 ((cells.drop off).take a.size) c.1.2 (c.2.map fp).flatten/\c.1.1.size=a.size/\∀id∈c.2,∃u,al b id=some u:=by
   split at i
   ·rename_i q;split at i
    ·rename_i X K;cases i;obtain⟨S,Y,D,E,_,aU⟩:=tF x K;rw[ar] at D;cases D;rw[M] at E;cases E;rw[o.2 q,N];exact⟨aU g w,rfl,ac⟩
    ·cases i
   ·rename_i C q;obtain⟨T,L⟩:=o.1 C q;rw[L];exact LD B x (A C) i
  have y:=Kh B A (parts:=parts) (cells:=cells) (u:=k) (n:=n+1) (off:=off+a.size) (zs:=zs.drop a.size) (t:=s.1) (ids:=s.2) H J (by rw[p];simp only[ah.size];omega) (by
   intro d r e I;have:=m (d+1) (.snd::r) e (by simp[dU,I]);simp only[dx] at this;rw[(U:n+(d+1)=n+1+d),(U:off+(a.size+dx k d)=off+a.size+dx k d)] at this;rw[oU];exact this)
  refine⟨⟨(c.2.map fp).flatten,(s.2.map fp).flatten,ac,?_,?_⟩,by simp only[ah.size];omega,?_⟩
  ·rw[j.2.1];exact j.1
  ·rw[j.2.1,oU];exact y.1
  ·intro id h;rcases eH.1 h with h|h
   ·exact j.2.2 id h
   ·exact y.2.2 id h
 |.nil,n,[],off,zs,t,ids,z,f,p,m=>by cases f;exact⟨⟨rfl,by rw[List.drop_eq_nil_iff];simp only[ah.size] at p;omega⟩,rfl,ac⟩
 |.pr _ _,_,[],_,_,_,_,b,_,_,_=>b.elim
 |.nil,_,_::_,_,_,_,_,b,_,_,_=>b.elim
 |.int _,_,_,_,_,_,_,b,_,_,_=>by cases b
 |.bool,_,_,_,_,_,_,b,_,_,_=>by cases b
 |.str,_,_,_,_,_,_,b,_,_,_=>by cases b
 |.a6 _ _,_,_,_,_,_,_,b,_,_,_=>by cases b
 |.osl _,_,_,_,_,_,_,b,_,_,_=>by cases b
 |.ptr _ _,_,_,_,_,_,_,b,_,_,_=>by cases b
 |.optr _,_,_,_,_,_,_,b,_,_,_=>by cases b
 |.st _,_,_,_,_,_,_,b,_,_,_=>by cases b
 |.de,_,_,_,_,_,_,b,_,_,_=>by cases b
theorem Ki {z:Program} {h:dd->Nat->Prop} {b:List (Nat×aB)} (l:∀id t,al b id=some t->aN h w t.1 (rt id) t.2 (fp id)) {j:Operand->ak} {i:Operand->Value} (k:∀e,bG h w b rt fp (j e) (i e)) {q:List (Nat×Operand)}:∀{u:ah} {n:Nat} {B:List Field} {p:Nat} {y:abU} {t:aB} {ids:ab0},hn z u B p y->li b j q u n=some (t,ids)->∀d s g,dU u d=some (s,g)->∀e,kq q (n+d)=some e->(i e).cells.size=g.size
 |.pr a A,n,J::P,p,y,t,ids,E,f,d,s,g,c,e,m=>by
  simp only[li] at f;split at f
  case h_2=>cases f
  rename_i v x o G;obtain⟨K,C,L,⟨M,Q,ar,N,O⟩,D⟩:=E;cases d with
  |zero=>
   simp only[dU,bH,fv] at c;obtain⟨_,rfl⟩:=c;rw[jM] at m;rw[m] at o;obtain⟨H,I,_⟩:=LD (t:=v.1) (ids:=v.2) l C (k e) o;have:=H.len;rw[I] at this;simpa using this
  |succ d=>
   simp only[dU] at c;split at c
   ·rename_i r F;simp only[bH,fv] at c;obtain⟨_,rfl⟩:=c;exact Ki l k (u:=A) (n:=n+1) (t:=x.1) (ids:=x.2) D G d r.1 r.2 F e (by rwa[(U:n+1+d=n+(d+1))])
   ·cases c
 |.pr _ _,_,[],_,_,_,_,b,_,_,_,_,_,_,_=>b.elim
 |.nil,_,_,_,_,_,_,_,_,_,_,_,c,_,_=>by cases c
 |.int _,_,_,_,_,_,_,b,_,_,_,_,_,_,_=>by cases b
 |.bool,_,_,_,_,_,_,b,_,_,_,_,_,_,_=>by cases b
 |.str,_,_,_,_,_,_,b,_,_,_,_,_,_,_=>by cases b
 |.a6 _ _,_,_,_,_,_,_,b,_,_,_,_,_,_,_=>by cases b
 |.osl _,_,_,_,_,_,_,b,_,_,_,_,_,_,_=>by cases b
 |.ptr _ _,_,_,_,_,_,_,b,_,_,_,_,_,_,_=>by cases b
 |.optr _,_,_,_,_,_,_,b,_,_,_,_,_,_,_=>by cases b
 |.st _,_,_,_,_,_,_,b,_,_,_,_,_,_,_=>by cases b
 |.de,_,_,_,_,_,_,b,_,_,_,_,_,_,_=>by cases b
theorem Sz (bl:o.op=.build c r) (D:j1 E.tt c=some x) (F:a5 x n=true\/x=n) (M:kN r.toList 0=true) (C:∀e∈r.toList,Nat.blt e.1 (eW n)=true) (S:∀f l b,dU n f=some (l,b)->∀g,kq r.toList f=some g->(a.eval g).cells.size=b.size):∃i h p,hn E.P n i 0 h/\(execOp a.eval o).run E.P w=.ok (.value (.agg p)) w/\p.toList.length=n.size/\(∀f l b,dU n f=some (l,b)->(∀g,kq r.toList (0+f)=some g->(a.eval g).cells.size=b.size/\(p.toList.drop (0+dx n f)).take b.size=(a.eval g).cells.toList)/\(kq r.toList (0+f)=none->(p.toList.drop (0+dx n f)).take b.size=(h.drop (dx n f)).take b.size)):=by
 obtain⟨j,i,h,ad,d1,am,an,q,Q⟩:∃j i h,E.P.info? c=some j/\j.size=n.size/\j.zero=some (.agg h)/\E.P.underlying c=some (.struct i)/\hn E.P n i.toList 0 h.toList/\h.size=n.size:=by
  unfold j1 at D;split at D
  ·rename_i d7 av;cases D;obtain⟨_,j,i,h,ar,W,_,X,Y,Z,ab⟩:=E.ok c _ av;rcases F with F|rfl
   ·have d:=a5.size F;exact⟨j,i,h,ar,by rw[<-d];exact W,X,Y,hn.lay F Z,by rw[<-d];exact ab⟩
   ·exact⟨j,i,h,ar,W,X,Y,Z,ab⟩
  ·cases D
 have H:=run_places (P:=E.P) w n i.toList 0 h.toList q;simp only[ip] at H;generalize bB:((List.range (eW n)).map λm=>(dx n m,match dU n m with|some e=>e.2.size|none=>0))=J at H;have y:∀m l b,dU n m=some (l,b)->m<eW n->J.toArray[m]?=some (dx n m,b.size):=(by intro m l b d a4;rw[<-bB];simp[a4,d]);obtain⟨p,cv,c1,c2,aU⟩:=xx (λj=>J.toArray[j]?) (r.toList.map λe=>(e.1,a.eval e.2)) h (by
  intro e z;obtain⟨k,v,rfl⟩:=bT.1 z;have u:k.1<eW n:=eT (C k v);obtain⟨l,b,d⟩:=pM q k.1 u;refine⟨_,_,y _ _ _ d u,S _ _ _ d k.2 ?_,by rw[Q];exact uS d⟩;exact Er M v) (by
  rw[qh];refine(Es M).imp_of_mem ?_;intro e K z ci u cs dl d3 d4 aj N;have B:e.1<eW n:=eT (C e z);have V:K.1<eW n:=eT (C K ci);obtain⟨ds,d0,s⟩:=pM q e.1 B;obtain⟨d5,d6,R⟩:=pM q K.1 V;rw[y _ _ _ s B] at aj;rw[y _ _ _ R V] at N;cases aj;cases N;exact .inl (sN s R u))
 have co:p.toList.length=n.size:=(by simp[c1,Q]);refine⟨i.toList,h.toList,p,q,?_,co,?_⟩
 ·have ce:(Array.map (λg=>(g.fst,a.eval g.snd)) r).toList=r.toList.map λe=>(e.1,a.eval e.2):=ac;have bs:(i.mapM λO=>do Pure.pure (O.offset,<-sizeOf O.type):Sem (Array cZ)).run E.P w=.ok J.toArray w:=by
   rw[Array.mapM_eq_mapM_toList,Sem.run_map,H];rfl
  have I:(zeroValue c).run E.P w=.ok (.agg h) w:=(by simp[zeroValue,typeInfo,ad,am]);simp only[execOp,bl,Instr.build,Sem.run_bind,I,run_underlying an,Result.andThen_ok,bs,ce,Value.cells,cv];rfl
 ·intro f l b d;have a0:f<eW n:=D8 d;simp only[ip];have d2:=uS d;refine⟨λg G=>?_,λG=>?_⟩
  ·have a3:=xL G;have I:=S f l b d g G;refine⟨I,?_⟩;apply gY;intro A;rcases bb A b.size with t|t
   ·obtain⟨L,T⟩:∃L,(a.eval g).cells[A]?=some L:=⟨_,vJ U⟩;have:=aU (f,a.eval g) (bT.2 ⟨(f,g),a3,rfl⟩) _ _ (y _ _ _ d a0) A L T;rw[k3 t,iG];simp only[tG];rw[this,T]
   ·rw[fu (by simp;omega),fu (by simp;omega)]
  ·apply gY;intro A;rcases bb A b.size with t|t
   ·rw[k3 t,k3 t,iG,iG];simp only[tG];refine c2 _ ?_;intro e z cs dl aj;obtain⟨k,v,rfl⟩:=bT.1 z;have bd:=EL G k v;have B:k.1<eW n:=eT (C k v);obtain⟨ds,d0,s⟩:=pM q k.1 B;rw[y _ _ _ s B] at aj;cases aj;rcases Nat.lt_or_gt_of_ne bd with u|ap
    ·have:=sN s d u;omega
    ·have:=sN d s ap;omega
   ·rw[fu (by simp;omega),fu (by simp;omega)]
theorem bE.Eb {u:abS} (d:bE C st u w I rt fp):∀{a:ab0},a.Nodup->(∀id∈a,∃b,al st.h id=some b)->(a.map fp).flatten.Nodup
 |[],_,_=>by simp
 |i::a,s,e=>by obtain⟨l,m⟩:=jn.1 s;obtain⟨b,g⟩:=e i ac;simp only[er,iE];refine iJ.2 ⟨(d.tree i b g).2.1,bE.Eb d m (λid q=>e id (by simp[q])),λk n x p c=>?_⟩;subst c;obtain⟨y,r,o⟩:=iI.1 p;obtain⟨j,f,rfl⟩:=bT.1 r;obtain⟨v,t⟩:=e j (by simp[f]);exact d.dis i j b v g t (λc=>l (c▸f)) k n o
theorem ES (a:b∈(f.map fp).flatten):∃id∈f,b∈fp id:=by obtain⟨h,e,c⟩:=iI.1 a;obtain⟨g,d,rfl⟩:=bT.1 e;exact⟨g,d,c⟩
def qv {k:Type} (tt:List (TypeId×ah)) (m:List (Nat×ah)) (e:List (Nat×aB)) (h:Operand->ak) (a:Nat) (l:TypeId) (c:List (Nat×Operand)) (g:br->Option k):Option k:=
 match j1 tt l with
 |none=>none
 |some f=>match al m a with
  |some (.st j)=>bif a5 f j&&(kN c 0&&c.all (λi=>Nat.blt i.1 (eW j))) then match al e a,li e h c j 0 with
   |none,some (b,d)=>bif h2 d then g ⟨some (a,.ref a []),d,[],[(a,⟨.st b.1,b.2⟩)]⟩ else none
   |_,_=>none
   else none
  |_=>bif kN c 0&&c.all (λi=>Nat.blt i.1 (eW f)) then match oq h c f 0 with
   |some b=>g ⟨some (a,.val (.st b.1) b.2),[],[],[]⟩
   |none=>match al e a,li e h c f 0 with
    |none,some (b,d)=>bif h2 d then g ⟨some (a,.ref a []),d,[],[(a,⟨.st b.1,b.2⟩)]⟩ else none
    |_,_=>none
   else none
theorem HY {J:Type} {G:J} {s:br->Option J} (W:o.op=.build c r) (P:o.dst=some b) (R:C.ok b) (z:j1 E.tt c=some x) (F:a5 x n=true\/x=n) (j:(kN r.toList 0&&r.toList.all (λp=>Nat.blt p.1 (eW n)))=true) (i:(match al st.h b,li st.h (aO st.g) r.toList n 0 with
  |none,some (d,e)=>bif h2 e then s ⟨some (b,.ref b []),e,[],[(b,⟨.st d.1,d.2⟩)]⟩ else none
  |_,_=>none)=some G)
 (X:∀u,s u=some G->Q (u.app st)):dz E C o st Q:=by
 split at i
 case h_2=>cases i
 rename_i d e T m;cases q:h2 e with
 |false=>rw[q] at i;cases i
 |true=>
 rw[q] at i;simp only[bg,eM] at j;obtain⟨K,L⟩:=j;rintro a w ⟨I,rt,fp,k⟩ next av V
 have A:∀id d,al st.h id=some d->aN (bc I C.B) w d.1 (rt id) d.2 (fp id):=λid d m=>(k.tree id d m).1;obtain⟨M,an,H,N,Y,bd,O⟩:=Sz (a:=a) (w:=w) W z F K L (by
  obtain⟨M,an,_,p⟩:=j1.ok z;intro ad am ap Z l a4;exact Ki A (λl=>k.aO l) (F.elim (λi=>hn.lay i p) (λi=>i▸p)) m ad am ap Z l (by rwa[ip]))
 obtain⟨v,a3,y⟩:=Kh A (λl=>k.aO l) (cells:=H.toList) N m U O;rw[ml] at v;refine dz.own (S:=e) (t:=⟨.st d.1,d.2⟩) (cs:=H.toList) (f:=(e.map fp).flatten) P R k V (.inr T) Y (gH.refl w) rfl v (k.Eb (h2.ok q) y) (λa0 j=>?_) ?_
 ·obtain⟨id,D,j⟩:=ES j;obtain⟨n,ab⟩:=y id D;exact .inr ⟨id,D,n,ab,j⟩
 ·have:=X _ i;rw[show(br.mk (some (b,.ref b [])) e [] [(b,⟨.st d.1,d.2⟩)]).app st=⟨(b,.ref b [])::kill e [] st.g,(b,⟨.st d.1,d.2⟩)::del e st.h⟩ by
   show aH.mk ((b,_)::lZ e [] st.g) ([_]++px e st.h)=_;rw[oj,sC];rfl] at this
  exact this
theorem Sp {v:Type} {s:v} {p:br->Option v} (l:o.op=.build c r) (i:o.dst=some b) (j:C.ok b) (a:qv E.tt k st.h (aO st.g) b c r.toList p=some s) (m:∀q,p q=some s->Q (q.app st)):dz E C o st Q:=by
 unfold qv at a;split at a
 ·cases a
 rename_i t e;split at a
 ·rename_i u x;cases d:(a5 t u&&(kN r.toList 0&&r.toList.all (λn=>Nat.blt n.1 (eW u)))) with
  |false=>rw[d] at a;cases a
  |true=>
  rw[d] at a;simp only[cond_true] at a;have f:=d;rw[bg] at f;exact HY l i j e (.inl f.1) f.2 a m
 cases d:(kN r.toList 0&&r.toList.all (λn=>Nat.blt n.1 (eW t))) with
 |false=>rw[d] at a;cases a
 |true=>
 rw[d] at a;simp only[cond_true] at a;split at a
 ·rename_i y w;refine dz.eval (an:=[]) i j ?_;rw[l];simp only[fo,wl,e,d,cond_true,w];exact m _ a
 exact HY l i j e (.inr rfl) d a m
def se {h:Type} (tt:List (TypeId×ah)) (j:List (Nat×ah)) (f:List (Nat×aB)) (a:Nat) (i:TypeId) (b:ak) (c:br->Option h):Option h:=
 match al tt i,al f a with
 |some g,none=>match b with
  |.val e b=>bif a5 g e then match al j a with
   |some (.ptr .bx _)=>c ⟨some (a,.val (.ptr .bx e) (some b)),[],[],[]⟩
   |_=>c ⟨some (a,.ref a []),[],[],[(a,⟨.optr e,b⟩)]⟩
   else none
  |.ref id []=>match al f id with
   |some d=>bif a5 g d.1 then c ⟨some (a,.ref a []),[id],[],[(a,⟨.optr d.1,d.2⟩)]⟩ else none
   |none=>none
  |_=>none
 |_,_=>none
theorem Ss {ad:Type} {Y:ad} {R:br->Option ad} (M:o.op=.box c m) (G:o.dst=some b) (H:C.ok b) (e:se E.tt k st.h b c (aO st.g m) R=some Y) (N:∀U,R U=some Y->Q (U.app st)):dz E C o st Q:=by
 unfold se at e;split at e
 case h_2=>cases e
 rename_i y F V;split at e
 ·rename_i D ab r;cases d:a5 y D with
  |false=>rw[d] at e;cases e
  |true=>
  rw[d] at e;simp only[cond_true] at e;split at e
  ·rintro a w ⟨I,rt,fp,l⟩ next am L
   have n:=l.aO m;rw[r] at n;have J:=(E.ok c y F).lay d;generalize P:a.eval m=A at n;cases n with|val u=>
   rename_i z;have s:∀p i,bc I C.B p i->bU w (w.alloc (.cells z.toArray c)) i:=λp i d=>.of_heap ((gH.alloc w _).heap i (l.ib i (l3 d)));have bl:Yields E C st a w I rt fp o (λT X=>Q ⟨(b,T)::st.g,X++st.h⟩):=by
    refine⟨.pointer (some ⟨w.heap.size,0,none⟩),w.alloc (.cells z.toArray c),λi=>I i\/i=w.heap.size,λ_=>[],λ_=>[],.val (.ptr .bx D) (some ab),[],?_,gH.alloc w _,λ_ e=>.inl e,?_,.nil,?_,N _ e⟩
    ·simp[execOp,M,P,Instr.box,newVar,newRow,nB J u.len u.one]
    ·rintro i (e|rfl)
     ·exact .inl e
     ·exact .inr ⟨aY _,ac⟩
    ·refine .val (τ:=.ptr .bx D) (x:=some ab) (cs:=[.pointer (some ⟨w.heap.size,0,none⟩)]) ⟨rfl,w.heap.size,0,z,rfl,.inr rfl,u.len,dS.alloc (λbs A K=>by simpa using K),?_⟩;refine u.mono (λp i d=>⟨?_,s p i d⟩) ac;cases p
     ·exact .inl d
     ·exact d.imp .inl (λe=>e)
   exact bl.wp l G H (λT X ap w' a4 av bd=>L _ ap w' a4 av bd)
  ·refine dz.eval (an:=[]) G H ?_;rw[M];simp only[fo,wm,F,V,r,d,cond_true];exact N _ e
 ·rename_i id r;split at e
  case h_2=>cases e
  rename_i j O;cases d:a5 y j.1 with
  |false=>rw[d] at e;cases e
  |true=>
  rw[d] at e;rintro a w ⟨I,rt,fp,l⟩ next am L
  have n:=l.aO m;rw[r] at n;obtain⟨q,ce,Z⟩:=l.tree id j O;have J:=(E.ok c y F).lay d;generalize P:a.eval m=A at n;cases n with|ref W a3=>
  rw[O] at W;cases W;obtain⟨rfl,rfl,rfl⟩:=aP.eX.1 a3;have s:∀i,i<w.heap.size->bU w (w.alloc (.cells (rt id).toArray c)) i:=λi d=>.of_heap ((gH.alloc w _).heap i d);have bB:aN (bc I C.B) (w.alloc (.cells (rt id).toArray c)) j.1 (rt id) j.2 (fp id):=q.mono (λp i d=>⟨d,s i (l.ib i (l3 d))⟩) (λi d=>s i (Z i d).2.2.1);refine dz.own (S:=[id]) (t:=⟨.optr j.1,j.2⟩) (cs:=[.pointer (some ⟨w.heap.size,0,none⟩)]) (f:=w.heap.size::fp id) (v:=.pointer (some ⟨w.heap.size,0,none⟩)) (w':=w.alloc (.cells (rt id).toArray c)) G H l L (.inr V) ?_ (gH.alloc w _) rfl ⟨w.heap.size,0,fp id,rt id,rfl,rfl,q.len,dS.alloc (λbs A K=>by simpa using K),hS.alloc (by simp[q.len]),bB⟩ (jn.2 ⟨λa0=>Nat.lt_irrefl _ (Z _ a0).2.2.1,ce⟩) ?_ ?_
  ·simp[execOp,M,P,Instr.box,newVar,newRow,nB J q.len q.one]
  ·intro i d;rcases dh.1 d with rfl|d
   ·exact .inl ⟨aY _,ac⟩
   ·exact .inr ⟨id,ac,j,O,d⟩
  ·have:=N _ e;rw[show(br.mk (some (b,.ref b [])) [id] [] [(b,⟨.optr j.1,j.2⟩)]).app st=⟨(b,.ref b [])::kill [id] [] st.g,(b,⟨.optr j.1,j.2⟩)::del [id] st.h⟩ from rfl] at this;exact this
 ·cases e
def sh (c:List (Nat×aB)) (a:ah) (x:ak):Option (a.den×ab0):=
 match x with
 |.ref id []=>match al c id with
  |some d=>match gJ a d.2 with
   |some b=>some (b,[id])
   |none=>none
  |none=>none
 |x=>match coe a x with
  |some b=>some (b,[])
  |none=>none
def si (b:List (Nat×aB)) (a:ah):List ak->Option (List a.den×c6)
 |[]=>some ([],[])
 |x::e=>match sh b a x,si b a e with
  |some d,some c=>some (d.1::c.1,d.2::c.2)
  |_,_=>none
theorem SX {b:dd->Nat->Prop} (q:∀id n,al e id=some n->aN b w n.1 (rt id) n.2 (fp id)) (j:dM E.P n c) (m:bG b w e rt fp d H) {o:n.den} (a:sh e n d=some (o,f)):aN b w n H.cells.toList o (f.map fp).flatten/\∀id∈f,∃s,al e id=some s:=by
 unfold sh at a;split at a
 ·rename_i id;split at a
  case h_2=>cases a
  rename_i u g;split at a
  case h_2=>cases a
  rename_i t h;cases a;obtain⟨x,d⟩:=u;have p:=jb h;cases p;cases m with|ref l r=>
  rw[g] at l;cases l;obtain⟨rfl,rfl,rfl⟩:=aP.eX.1 r;have i:=q id _ g;rw[nB j i.len i.one];refine⟨by simpa using i,λv k=>?_⟩;rw[eS] at k;subst k;exact⟨_,g⟩
 ·split at a
  ·rename_i t h;cases a;exact⟨Dm j m h,ac⟩
  ·cases a
theorem Ih {e:List (Nat×aB)} {f:ah}:∀{c:List ak} {xs:List f.den} {is:c6},si e f c=some (xs,is)->xs.length=c.length/\is.length=c.length/\∀(a:Nat) (d:f.den),xs[a]?=some d->∃(y:ak) (h:ab0),c[a]?=some y/\is[a]?=some h/\sh e f y=some (d,h)
 |[],xs,is,b=>by cases b;exact⟨rfl,rfl,λa d e=>by simp at e⟩
 |y::c,xs,is,b=>by
  simp only[si] at b;split at b
  ·rename_i o i n m;cases b;obtain⟨j,k,l⟩:=Ih (xs:=i.1) (is:=i.2) m;refine⟨by simp[j],by simp[k],λa d g=>?_⟩;cases a with
   |zero=>simp only[iY,bH] at g;subst g;exact⟨y,o.2,rfl,rfl,n⟩
   |succ a=>simpa using l a d (by simpa using g)
  ·cases b
def qx {i:Type} (tt:List (TypeId×ah)) (k:List (Nat×ah)) (f:List (Nat×aB)) (e:Operand->ak) (a:Nat) (j:TypeId) (g:Nat) (c:List (Nat×Operand)) (d:br->Option i):Option i:=
 match e7 tt j,al f a with
 |some h,none=>
  match(match al k a with|some (.osl t)=>t|_=>h) with
  |t=>bif a5 h t&&Nat.ble t.size 2000&&Nat.ble g 1000&&tp c 0&&Nat.beq c.length g then
   match wv t (c.map λb=>e b.2) with
   |some l=>d ⟨some (a,.ref a []),[],[],[(a,⟨.osl t,l⟩)]⟩
   |none=>match si f t (c.map λb=>e b.2) with
    |some b=>bif h2 b.2.flatten then d ⟨some (a,.ref a []),b.2.flatten,[],[(a,⟨.osl t,b.1⟩)]⟩ else none
    |none=>none
  else none
 |_,_=>none
theorem Sw {d7:Type} {d4:d7} {av:br->Option d7} (cv:o.op=.buildSlice c b r) (bs:o.dst=some l) (bB:C.ok l) (j:qx E.tt k st.h (aO st.g) l c b r.toList av=some d4) (N:∀y,av y=some d4->Q (y.app st)):dz E C o st Q:=by
 unfold qx at j;split at j
 case h_2=>cases j
 rename_i p bl ce;generalize F:(match al k l with|some (.osl e)=>e|_=>p)=e at j;simp only at j;cases i:(a5 p e&&Nat.ble e.size 2000&&Nat.ble b 1000&&tp r.toList 0&&Nat.beq r.toList.length b) with
 |false=>rw[i] at j;cases j
 |true=>
 rw[i] at j;simp only[cond_true] at j;split at j
 ·rename_i u d0;refine dz.eval (an:=k) bs bB ?_;rw[cv];simp only[fo,uj,bl,ce];cases K:al k l with
  |none=>
   rw[K] at F;simp only at F;subst F;simp only[i,cond_true,d0];exact N _ j
  |some n=>
   rw[K] at F;cases n<;>(simp only at F;subst F;simp only[i,cond_true,d0];exact N _ j)
 split at j
 case h_2=>cases j
 rename_i n c2;obtain⟨u,q⟩:=n;cases W:h2 q.flatten with
 |false=>rw[W] at j;cases j
 |true=>
 rw[W] at j;rintro a w ⟨I,rt,fp,H⟩ next go f4
 have fn:∀id e,al st.h id=some e->aN (bc I C.B) w e.1 (rt id) e.2 (fp id):=λid e F=>(H.tree id e F).1;simp only[bg] at i;obtain⟨⟨⟨⟨d9,Z⟩,ab⟩,R⟩,a0⟩:=i;have Z:=eT Z;have ab:=eT ab;have a0:r.toList.length=b:=es a0;obtain⟨d2,Y,_,em,eq⟩:=e7.ok bl;have M:=eq.lay d9;obtain⟨am,gs,d3,_⟩:=M.info;have hi:=M.pos;obtain⟨ed,a3,a4⟩:=Ih c2;simp only[gw] at ed a3;have f8:u.length=b:=U;have gv:b*e.size<=16777216:=(by have:b*e.size<=1000*2000:=jN ab Z;omega);have V:∀(d:Nat) (n:Nat×Operand),r.toList[d]?=some n->∃(z:e.den) (s:ab0),u[d]?=some z/\q[d]?=some s/\aN (bc I C.B) w e (a.eval n.2).cells.toList z (s.map fp).flatten/\∀id∈s,∃p,al st.h id=some p:=(by intro d n D;have f1:d<u.length:=(by have:=(ey.1 D).1;omega);obtain⟨i0,s,aj,ek,T⟩:=a4 d u[d] ac;rw[eN,D] at aj;simp only[fe,bH] at aj;subst aj;obtain⟨gf,gi⟩:=SX fn M (H.aO n.2) T;exact⟨u[d],s,ac,ek,gf,gi⟩);have ad:∀id∈q.flatten,∃p,al st.h id=some p:=by
  intro id A;obtain⟨O,K,ft⟩:=iI.1 A;obtain⟨d,D,rfl⟩:=fH.1 K;have J:r.toList[d]?=some (r.toList[d]'(by omega)):=be _
  obtain⟨z,s,_,y,_,x⟩:=V d _ J;rw[be D] at y;cases y;exact x id ft
 obtain⟨d1,fz,fT⟩:∃d6:abS,(b*e.size=0->d6=#[])/\(b*e.size≠0->∃L,(zeroValue Y).run E.P w=.ok L w/\d6=L.cells):=by
  by_cases G:b*e.size=0
  ·exact⟨#[],λ_=>rfl,λj=>absurd G j⟩
  ·obtain⟨L,_,gc⟩:=dM.El M;exact⟨L.cells,λj=>absurd j G,λ_=>⟨L,by simp[zeroValue,typeInfo,d3.info,gc am d3.info],rfl⟩⟩
 obtain⟨ap,d5,gl,ic,aU⟩:=xx (λam=>some (am*e.size,e.size)) (r.toList.map λn=>(n.1,a.eval n.2)) ((Array.range (b*e.size)).map (d1[· %d1.size]!)) (by
  intro n N;obtain⟨hw,f5,rfl⟩:=bT.1 N;obtain⟨d,D,rfl⟩:=fH.1 f5;have J:r.toList[d]?=some r.toList[d]:=ac;obtain⟨z,_,_,_,X,_⟩:=V d _ J;have y:=pU R d _ J;have:(d+1)*e.size<=b*e.size:=ga _ U;rw[eD,g0] at this;refine⟨_,_,rfl,by have:=X.len;simpa using this,?_⟩;simp only[Array.size_map,Array.size_range];rw[y,ip];exact this) (by
  rw[gx];intro d O D K f1 hs ii hv io aj T;simp only[rV,bH,fv] at aj T;simp only[gw] at D K;have el:=pU R d r.toList[d] ac;have f2:=pU R O r.toList[O] ac;obtain⟨rfl,rfl⟩:=aj;obtain⟨rfl,rfl⟩:=T;left;rw[el,f2];have:(0+d+1)*e.size<=(0+O)*e.size:=ga _ U;rw[eD,g0] at this;exact this)
 have f6:ap.size=b*e.size:=(by rw[gl];simp);have bd:∀m,m<w.heap.size->bU w (w.alloc (.cells ap Y)) m:=λm i=>.of_heap ((gH.alloc w _).heap m i);have ex:(q.map λs=>(s.map fp).flatten).flatten=(q.flatten.map fp).flatten:=by
  clear V ad a4 W j c2 a3
  induction q with
  |nil=>rfl
  |cons z O ge=>simp only[er,iE,ge,fZ,oZ]
 have co:∀m∈(q.flatten.map fp).flatten,m<w.heap.size/\∃id∈q.flatten,∃p,al st.h id=some p/\m∈fp id:=(by intro m i;obtain⟨id,A,i⟩:=ES i;obtain⟨p,x⟩:=ad id A;exact⟨((H.tree id p x).2.2 m i).2.2.1,id,A,p,x,i⟩);refine dz.own (S:=q.flatten) (t:=⟨.osl e,u⟩) (cs:=[.slice (some ⟨w.heap.size,0,none⟩) b b]) (f:=w.heap.size::(q.flatten.map fp).flatten) (v:=.slice (some ⟨w.heap.size,0,none⟩) b b) (w':=w.alloc (.cells ap Y)) bs bB H f4 (.inr ce) ?_ (gH.alloc w _) rfl ?_ (jn.2 ⟨λf3=>Nat.lt_irrefl _ (co _ f3).1,H.Eb (h2.ok W) ad⟩) ?_ ?_
 ·have f7:=M.sizeOf w;have hc:¬(16777216<b*e.size):=U;have c1:(Array.map (λz=>(z.fst,a.eval z.snd)) r).toList=r.toList.map λn=>(n.1,a.eval n.2):=ac;simp only[execOp,cv,Instr.buildSlice,Sem.run_bind,run_underlying em,Result.andThen_ok,f7];rw[if_neg U];by_cases G:b*e.size=0
  ·rw[if_pos G];obtain rfl:=fz G;rw[c1];simp only[Sem.run_bind,Sem.run_pure,Result.andThen_ok,d5,newRow,newObj];rfl
  ·rw[if_neg G];obtain⟨L,f9,rfl⟩:=fT G;rw[c1];simp only[Sem.run_bind,Sem.run_pure,Result.andThen_ok,f9,d5,newRow,newObj];rfl
 ·refine⟨some ⟨w.heap.size,0,none⟩,b,by rw[f8],.inr ⟨w.heap.size,0,q.map λs=>(s.map fp).flatten,rfl,by rw[ex],by simp;omega,(by show u.length<=b;omega),hS.alloc (by rw[f6];omega),λd z gt X ci=>?_⟩⟩;have D:d<b:=(by have:d<u.length:=(ey.1 X).1;omega);have J:r.toList[d]?=some (r.toList[d]'(by omega)):=by simp
  obtain⟨is,s,ds,fs,dl,x⟩:=V d _ J;rw[X] at ds;obtain rfl:=dV ds;rw[eN,fs] at ci;obtain rfl:=dV ci;refine⟨_,dl.len,dS.alloc (λd2 d8 f0=>?_),dl.mono (λhr m i=>⟨i,bd m (H.ib m (l3 i))⟩) (λm i=>?_)⟩
  ·have:=aU (r.toList[d].1,a.eval r.toList[d].2) (bT.2 ⟨r.toList[d],bI _,rfl⟩) _ _ rfl d2 d8 (by simpa using f0);have y:=pU R d _ J;rw[y,ip] at this;simpa using this
  ·obtain⟨id,A,i⟩:=ES i;obtain⟨p,x⟩:=x id A;exact bd m ((H.tree id p x).2.2 m i).2.2.1
 ·intro m i;rcases dh.1 i with rfl|i
  ·exact .inl ⟨aY _,ac⟩
  ·obtain⟨_,id,A,p,x,i⟩:=co m i;exact .inr ⟨id,A,p,x,i⟩
 ·have:=N _ j;rw[show(br.mk (some (l,.ref l [])) q.flatten [] [(l,⟨.osl e,u⟩)]).app st=⟨(l,.ref l [])::kill q.flatten [] st.g,(l,⟨.osl e,u⟩)::del q.flatten st.h⟩ by
   show aH.mk ((l,_)::lZ _ [] st.g) ([_]++px _ st.h)=_;rw[oj,sC];rfl] at this
  exact this
end
end
section
def hy:ah->ah
 |.osl a=>.a6 .bx (hy a)
 |.st a=>.st (hy a)
 |.pr b c=>.pr (hy b) (hy c)
 |.mp a=>.dJ .bx a
 |τ=>τ
def qV:ah->Bool
 |.osl a|.st a=>qV a
 |.pr b c=>qV b&&qV c
 |.optr _|.de=>false
 |_=>true
theorem qX:∀d:ah,(hy d).den=d.den
 |.osl c=>congrArg List (qX c)
 |.st c=>qX c
 |.pr a b=>by show((hy a).den×(hy b).den)=(a.den×b.den);rw[qX a,qX b]
 |.int _|.bool|.str|.a6 _ _|.ptr _ _|.optr _|.nil|.de|.mp _|.dJ _ _=>rfl
def jX (a:ah) (b:a.den):(hy a).den:=cast (qX a).symm b
theorem SE {c:Type} (d:a=c) (e:List a=List c) (b:List a):cast e b=b.map (cast d):=by subst d;show b=b.map (λf=>f);simp
theorem SF {c C d:Type} (e:a=c) (f:C=d) (g:(a×C)=(c×d)) (b:a×C):cast g b=(cast e b.1,cast f b.2):=by subst e;subst f;rfl
theorem Ee (a:ah) (b:List a.den):(jX (.osl a) b:List (hy a).den)=b.map (jX a):=SE (qX a).symm _ b
theorem UE (a b:ah) (c:a.den×b.den):(jX (.pr a b) c:(hy a).den×(hy b).den)=(jX a c.1,jX b c.2):=SF (qX a).symm (qX b).symm _ c
theorem sQ:∀b:ah,(hy b).size=b.size
 |.osl a=>rfl
 |.st a=>sQ a
 |.pr c d=>by simp only[hy,ah.size,sQ c,sQ d]
 |.int _|.bool|.str|.a6 _ _|.ptr _ _|.optr _|.nil|.de|.mp _|.dJ _ _=>rfl
theorem vu {B u:dd->Nat->Prop} {w:World} (i:∀c a,B c a->u c a):∀{τ:ah} {g:abU} {d:τ.den} {h:ab0},qV τ=true->aN B w τ g d h->(∀a∈h,u .bx a)->aN u w (hy τ) g (jX τ d) []
 |.osl f,g,t,h,j,b,k=>by
  obtain⟨l,K,G,b⟩:=b;have s:(jX (.osl f) t:List (hy f).den).length=List.length (α:=f.den) t:=(by rw[Ee];simp);rcases b with⟨rfl,E,rfl,rfl⟩|⟨a,R,D,rfl,rfl,r,o,F,A⟩
  ·refine⟨rfl,none,0,by rw[G,s],by rw[s,E];simp,λ_=>rfl,.inl ?_⟩;rw[Ee,E];rfl
  ·refine⟨rfl,_,K,by rw[G,s],by rw[s];exact o,(λb=>by cases b),?_⟩;refine .inr ⟨a,R,rfl,k a ac,λm d q=>?_⟩;rw[Ee] at q;have q:(List.map (jX f) t)[m]?=some d:=q;rw[eN] at q;obtain⟨S,H,rfl⟩:=eb.1 q;have U:m<List.length (α:=f.den) t:=(ey.1 H).1;have O:D[m]?=some (D[m]'(by omega)):=be _
   obtain⟨z,v,x,y⟩:=A m S _ H O;rw[sQ];exact⟨z,v,x,vu i j y (λn p=>k n (e0 _ (iI.2 ⟨_,bI _,p⟩)))⟩
 |.st f,g,d,h,j,b,k=>vu (τ:=f) i j b k
 |.pr l a,g,d,h,j,b,k=>by
  simp only[qV,bg] at j;obtain⟨T,f2,rfl,r,o⟩:=b;have C:=UE l a d;refine⟨[],[],rfl,?_,?_⟩
  ·rw[sQ];have:=vu i j.1 r (λn p=>k n (by simp[p]));rw[show(jX (.pr l a) d:(hy l).den×(hy a).den).1=jX l d.1 by rw[C]];exact this
  ·rw[sQ];have:=vu i j.2 o (λn p=>k n (by simp[p]));rw[show(jX (.pr l a) d:(hy l).den×(hy a).den).2=jX a d.2 by rw[C]];exact this
 |.int Q,g,d,h,_,b,_=>by obtain rfl:=aN.pure (τ:=.int Q) rfl b;exact b.mono (λc a e=>⟨i c a e,bU.refl _ _⟩) ac
 |.bool,g,d,h,_,b,_=>by obtain rfl:=aN.pure (τ:=.bool) rfl b;exact b.mono (λc a e=>⟨i c a e,bU.refl _ _⟩) ac
 |.str,g,d,h,_,b,_=>by obtain rfl:=aN.pure (τ:=.str) rfl b;exact b.mono (λc a e=>⟨i c a e,bU.refl _ _⟩) ac
 |.a6 c f,g,d,h,_,b,_=>by obtain rfl:=aN.pure (τ:=.a6 c f) rfl b;exact b.mono (λc a e=>⟨i c a e,bU.refl _ _⟩) ac
 |.ptr c f,g,d,h,_,b,_=>by obtain rfl:=aN.pure (τ:=.ptr c f) rfl b;exact b.mono (λc a e=>⟨i c a e,bU.refl _ _⟩) ac
 |.nil,g,d,h,_,b,_=>by obtain rfl:=aN.pure (τ:=.nil) rfl b;exact b.mono (λc a e=>⟨i c a e,bU.refl _ _⟩) ac
 |.optr _,_,_,_,j,_,_=>by cases j
 |.dJ c f,g,d,h,_,b,_=>by obtain rfl:=aN.pure (τ:=.dJ c f) rfl b;exact b.mono (λc a e=>⟨i c a e,bU.refl _ _⟩) ac
 |.mp f,g,d,h,_,b,k=>by
  cases d with
  |none=>exact⟨rfl,b.2⟩
  |some I=>
   obtain⟨a,L,J,r,o,N,F,A,M⟩:=b;refine⟨a,L,J,r,rfl,N,k a (by rw[o];simp),F,A,λm I P=>?_⟩;obtain⟨z,v,x,y⟩:=M m I P;exact⟨z,v,x,y.mono (λc a e=>⟨i c a e,bU.refl _ _⟩) ac⟩
 |.de,_,_,_,j,_,_=>by cases j
def pC:aB->ak
 |⟨.optr u,x⟩=>.val (.ptr .bx (hy u)) (some (jX u x))
 |⟨a,x⟩=>.val (hy a) (jX a x)
def Ef:ah->Bool
 |.optr a=>qV a
 |τ=>qV τ
def fx (c:List (Nat×aB)) (b:ab0) (a:ak):ak:=
 match a with
 |.ref id []=>bif dj id b then match al c id with
  |some d=>pC d
  |none=>.dead else .ref id []
 |a=>bif a.dR b then .dead else a
theorem lh (c:List (Nat×aB)) (b:ab0) (a:ak):(∃id d,a=.ref id []/\id∈b/\al c id=some d/\fx c b a=pC d)\/(fx c b a=.dead/\a.dR b=true)\/(fx c b a=a/\a.dR b=false):=by
 have i:∀a:ak,fx c b a=(bif a.dR b then .dead else a)->(∃id d,a=.ref id []/\id∈b/\al c id=some d/\fx c b a=pC d)\/(fx c b a=.dead/\a.dR b=true)\/(fx c b a=a/\a.dR b=false):=by
  intro a f;cases g:a.dR b with
  |true=>rw[g] at f;exact .inr (.inl ⟨f,rfl⟩)
  |false=>rw[g] at f;exact .inr (.inr ⟨f,rfl⟩)
 cases a with
 |ref id j=>
  cases j with
  |nil=>
   cases e:dj id b with
   |true=>
    have g:(ak.ref id []).dR b=true:=(by simp[ak.dR,ak.ids,e]);cases h:al c id with
    |none=>exact .inr (.inl ⟨by simp[fx,e,h],g⟩)
    |some d=>exact .inl ⟨id,d,rfl,ep.1 e,h,by simp[fx,e,h]⟩
   |false=>exact .inr (.inr ⟨by simp[fx,e],by simp[ak.dR,ak.ids,e]⟩)
  |cons k j=>exact i _ rfl
 |_=>exact i _ rfl
def hg (c:List (Nat×aB)) (b:ab0):ak->ak
 |.dC d=>.dC (d.map (fx c b))
 |a=>fx c b a
theorem Bd (b:∀a,d≠.dC a):hg e f d=fx e f d:=by
 cases d with
 |dC a=>exact absurd rfl (b a)
 |_=>rfl
def qW (a:ab0) (st:aH):aH:=⟨st.g.map λb=>(b.1,hg st.h a b.2),del a st.h⟩
theorem Jp (c:ak->ak) (e:c .dead=.dead):∀(d:List (Nat×ak)) (b:Nat),gt (d.map λf=>(f.1,c f.2)) b=c (gt d b)
 |[],b=>e.symm
 |(g,a)::d,b=>by
  show gt ((g,c a)::_) b=_;rw[hz,hz];split
  ·rfl
  ·exact Jp c e d b
theorem Bf (a:ab0) (st:aH) (b:Nat):gt (qW a st).g b=hg st.h a (gt st.g b):=Jp (hg st.h a) rfl st.g b
theorem UF (a:ab0) (st:aH):aO (qW a st).g=λb=>hg st.h a (aO st.g b):=by
 funext b;cases b with
 |tmp c=>exact Bf a st c
 |const d=>cases d<;>rfl
 |func e=>rfl
 |global f=>rfl
theorem CE (a:d.dR f=false) (b:List (Nat×List aV)):dB f b d=d:=by unfold dB;rw[a];rfl
theorem abi (a:(ak.dC L).dR f=false) (c:d∈L):d.dR f=false:=by unfold ak.dR at a|-;rw[tO] at a|-;intro id g;obtain⟨b,e,rfl⟩:=fH.1 c;exact a id (ak.xU (l:=L) (i:=b) (be e) g)
theorem abh (b:d.dR f=false) (a:List (Nat×List aV)):ej f a d=d:=by
 cases d with
 |dC e=>
  simp only[ej];rw[hU (λd c=>CE (abi b c) a),List.map_id']
 |_=>exact CE b a
theorem sP (a:ab0) (b:List (Nat×List aV)) (c:aB):ej a b (pC c)=dB a b (pC c):=by unfold pC;split<;>rfl
def vG (a e:ak):Prop:=a=.dead\/a=e\/∃b c,a=.dC b/\e=.dC c/\b.length=c.length/\∀(f:Nat) (d g:ak),b[f]?=some d->c[f]?=some g->d=.dead\/d=g
section
variable {C:dA} {st:aH} {G:abS} {w:World}
theorem bE.freeze {i:Nat->Prop} (u:bE C st G w i y z) (W:∀id∈f,∃b,al st.h id=some b/\Ef b.1=true):ff C (qW f st) G w:=by
 have N:=u.bZ (S:=f) (keep:=[]) (new:=[]) (rtn:=y) (fpn:=z) (w':=w) (I':=λa=>i a\/∃id∈f,∃b,al st.h id=some b/\a∈z id) ⟨aY _,rfl,rfl,rfl,λ_ _ _=>rfl,λ_ _=>.refl _ _,λ_ c=>.inl c,λa c=>c.imp id λ⟨id,ab,b,s,o⟩=>
  ⟨((u.tree id b s).2.2 a o).2.2.1,.inr ⟨id,ab,b,s,o⟩⟩,(λ_ _ c=>by cases c),(λ_ _ _ _ c=>by cases c),(λ_ c=>by cases c),(λ_ c=>by cases c)⟩
 refine⟨_,_,_,{N with tmp:=λq=>?_}⟩;rw[Bf];have p:=u.tmp q;have k:=N.tmp q;rw[show gt (aH.mk (kill f [] st.g) ([]++del f st.h)).g q=ej f [] (gt st.g q) from ns _ _ _ _] at k;generalize gt st.g q=l at p k;generalize G.getD q undef=e at p k;have H:∀(l:ak) (e:Value),bG (bc i C.B) w st.h y z l e->bG (bc (λa=>i a\/∃id∈f,∃b,al st.h id=some b/\a∈z id) C.B) w ([]++del f st.h) (dG [] y y) (dG [] z z) (dB f [] l) e->
  bG (bc (λa=>i a\/∃id∈f,∃b,al st.h id=some b/\a∈z id) C.B) w ([]++del f st.h) (dG [] y y) (dG [] z z) (fx st.h f l) e:=by
  intro l e p k;rcases lh st.h f l with⟨id,b,j,m,n,V⟩|⟨j,_⟩|⟨j,m⟩
  ·rw[V];rw[j] at p;cases p with|ref s am=>
   rw[n] at s;cases s;obtain⟨rfl,rfl,rfl⟩:=aP.eX.1 am;obtain⟨bs,M,K⟩:=W id m;rw[n] at M;cases M;have J:∀v a,bc i C.B v a->bc (λa=>i a\/∃id∈f,∃b,al st.h id=some b/\a∈z id) C.B v a:=by
    intro v a o;cases v
    ·exact .inl o
    ·exact o.imp .inl (λc=>c)
   have L:=(u.tree id b n).1;have A:∀a∈z id,bc (λa=>i a\/∃id∈f,∃b,al st.h id=some b/\a∈z id) C.B .bx a:=λa o=>.inr ⟨id,m,b,n,o⟩;obtain⟨d,t⟩:=b;by_cases D:∃r,d=.optr r
   ·obtain⟨r,rfl⟩:=D;obtain⟨a,E,a4,Q,aj,I,R,T,a3,U⟩:=L;show bG _ _ _ _ _ (.val (.ptr .bx (hy r)) (some (jX r t))) _;have aj:y id=[.pointer (some ⟨a,E,none⟩)]:=aj;rw[aj];refine .val (τ:=.ptr .bx (hy r)) (x:=some (jX r t)) (cs:=[.pointer (some ⟨a,E,none⟩)]) ⟨rfl,a,E,Q,rfl,A a (by rw[I];exact iH ..),by rw[sQ];exact R,T,vu J K U (λP X=>A P (by rw[I];exact e0 _ X))⟩
   ·have ap:bL d (y id)=bL (hy d) (y id):=by
     cases d<;>rfl
    have av:pC ⟨d,t⟩=.val (hy d) (jX d t):=by cases d<;>first|rfl|exact absurd ⟨_,rfl⟩ D
    have an:qV d=true:=by cases d<;>first|exact K|exact absurd ⟨_,rfl⟩ D
    rw[av];show bG _ _ _ _ _ _ (bL d (y id));rw[ap];exact .val (vu J an L A)
  ·rw[j];exact .dead _
  ·rw[j];rw[CE m] at k;exact k
 cases l with
 |dC bl=>
  cases p with|dC ad Y=>
  cases k with|dC bd Z=>
  refine .dC (by simp[ad]) (λO a0 e j m=>?_);rw[eN] at j;obtain⟨F,n,rfl⟩:=eb.1 j;exact H F e (Y O F e n m) (Z O _ e (by rw[eN,n];rfl) m)
 |_=>exact H _ _ p k
theorem ff.JZ (y:ff C st G w) (E:∀b,vG (gt i.g b) (gt st.g b)) (k:∀id,al i.h id=al st.h id):ff C i G w:=by
 obtain⟨o,q,p,e⟩:=y;refine⟨o,q,p,{e with tree:=λid j m=>e.tree id j (by rw[<-k];exact m),dis:=λf K j M H I=>e.dis f K j M (by rw[<-k];exact H) (by rw[<-k];exact I),tmp:=λb=>?_}⟩;have t:∀(d:ak) (c:Value),bG (bc o C.B) w st.h q p d c->bG (bc o C.B) w i.h q p d c:=λd c A=>
  A.rh (λP N D=>⟨D,bU.refl _ _⟩) (λid _ j m=>⟨by rw[k];exact m,rfl,rfl,(e.tree id j m).1,λ_ _=>bU.refl _ _⟩)
 have l:=e.tmp b;rcases E b with a|a|⟨O,L,aj,u,v,x⟩
 ·rw[a];exact .dead _
 ·rw[a];exact t _ _ l
 ·rw[aj];rw[u] at l;generalize G.getD b undef=c at l;cases l with|dC J F=>
  refine .dC (v.trans J) (λf d c r z=>?_);obtain⟨n,s⟩:∃n,L[f]?=some n:=(by have:=(ey.1 r).1;exact⟨_,be U⟩);rcases x f d n r s with a|a
  ·rw[a];exact .dead _
  ·rw[a];exact t _ _ (F f n c s z)
theorem ff.less (b:ff C st G w) (c:∀a,gt i.g a=.dead\/gt i.g a=gt st.g a) (d:∀id,al i.h id=al st.h id):ff C i G w:=
 b.JZ (λa=>(c a).imp id .inl) d
end
def p2:Op->List Operand
 |.build _ c=>c.toList.map (·.2)
 |.buildSlice _ _ c=>c.toList.map (·.2)
 |.store _ _ a=>[a]
 |.mapUpdate _ _ _ a=>[a]
 |.insert _ _ _ a=>[a]
 |.entryStore _ _ _ a=>[a]
 |.box _ a=>[a]
 |.assign a=>[a]
 |.call b=>match b.callee with
  |.value _=>b.args.toList
  |.builtin .append=>b.args.toList.drop 1
  |_=>[]
 |_=>[]
def sO (b:Oper):Nat:=match b.dst with
 |some a=>a
 |none=>999999
def kJ (a:ab2) (c:Nat) (b:Operand->ak):List Operand->ab0
 |[]=>[]
 |x::d=>match b x with
  |.ref id []=>bif a.any (λe=>Nat.beq e.1 c&&Nat.beq e.2 id) then id::kJ a c b d else kJ a c b d
  |_=>kJ a c b d
end
section
theorem Dt {c d:List a} (e:l<=b) (f:b<=c.length):(hZ c d l b).length=c.length:=by unfold hZ;simp only[nP,eC,kz];omega
theorem Im {d e:List a} (i:b<=l) (j:l<=d.length) (c:Nat):(hZ d e b l)[c]?=if b<=c/\c<b+min e.length (l-b) then e[c-b]? else d[c]?:=by
 unfold hZ;rw[yL];simp only[eC];rcases bb c b with f|f
 ·rw[if_pos U,if_neg U,k3 f]
 ·rw[if_neg U,yL];simp only[eC];have g:c-min b d.length=c-b:=U;rw[g];by_cases h:c<b+min e.length (l-b)
  ·rw[if_pos U,if_pos ⟨f,h⟩,k3 U]
  ·rw[if_neg U,if_neg U,iG];congr 1;omega
def pk {k:Type} (tt:List (TypeId×ah)) (d:List (Nat×aB)) (f:Nat) (l:TypeId) (m j:ak) (e:br->Option k):Option k:=
 match e7 tt l with
 |none=>none
 |some i=>match m with
  |.ref id []=>match al d id with
   |some ⟨.osl a,b⟩=>bif a5 i a&&Nat.beq a.size 1&&a.pure then
    (jJ d a j).bind λc=>e ⟨some (f,.val (.int .i64) ((min c.length (b.length-0):Nat):Int)),[id],[(id,[])],[(id,⟨.osl a,hZ b c 0 b.length⟩)]⟩
    else none
   |_=>none
  |.view id [] h g=>match al d id with
   |some ⟨.osl a,b⟩=>bif a5 i a&&Nat.beq a.size 1&&a.pure then
    (jJ d a j).bind λc=>e ⟨some (f,.val (.int .i64) ((min c.length (g-h):Nat):Int)),[id],[(id,[])],[(id,⟨.osl a,hZ b c h g⟩)]⟩
    else none
   |_=>none
  |_=>none
theorem br.R6 {a:List (Nat×List aV)} {st:aH}:(br.mk (some (b,d)) f a e).app st=⟨(b,d)::kill f a st.g,e++del f st.h⟩:=by show aH.mk ((b,d)::lZ f a st.g) (e++px f st.h)=_;rw[oj,sC]
section
variable {E:dY} {C:dA} {st:aH} {a:Act} {w:World} {I:Nat->Prop} {rt:Nat->abU} {fp:Nat->ab0} {o:Oper}
theorem GD (e:bE C st a.tmps w I rt fp) {b:List n.den} (c:jJ st.h n (aO st.g m)=some b):we I C.B w n (a.eval m) b:=by
 refine tC e ?_;have:=yC c;generalize p5 st.h n (aO st.g m)=i at this;cases i with
 |du k=>exact this.symm
 |part l o j=>obtain⟨f,d,rfl⟩:=this;exact⟨f,d,rfl⟩
 |bad=>exact this.elim
theorem Ds (co:bE C st a.tmps w I rt fp) {f2:Type} {fz:f2} {d2:br->Option f2} {d1:Operand} (hv:o.op=.call {callee:=.builtin .copy,args:=#[m,d1],argTypes:=#[c,q]}) (Z:o.dst=some W) (gf:C.ok W) {next:Act->World->Prop} {d4:Exit->Act->World->Prop} (hs:∀fT a3 w',(∃p,d2 p=some fz/\fT=p.app st)->a3.defers=a.defers->ff C fT a3.tmps w'->next a3 w') (f9:e7 E.tt c=some x) (hr:a5 x n=true) (t:n.size=1) (ad:n.pure=true) {id:Nat} {k g:List n.den} (O:al st.h id=some ⟨.osl n,k⟩) (J:b<=l) (K:l<=k.length) (ic:we I C.B w n (a.eval d1) g) {a4:Option Addr} {d5:Nat} (eq:a.eval m=.slice a4 (l-b) d5) (ib:l-b=0\/∃d j V,rt id=[.slice (some ⟨d,j,none⟩) k.length V]/\a4=some ⟨d,j+b,none⟩) (f6:d2 ⟨some (W,.val (.int .i64) ((min g.length (l-b):Nat):Int)),[id],[(id,[])],[(id,⟨.osl n,hZ k g b l⟩)]⟩=some fz):o.wp E.P a w next d4:=by
 obtain⟨f,d3,ar,d9,f4⟩:=e7.ok f9;have f5:=f4.lay hr;obtain⟨ne,_,ap,_⟩:=f5.info;obtain⟨d0,lb,f0⟩:=co.tree id _ O;obtain⟨f1,le,X,fn,c1,gs⟩:=ic;have d7:∀w':World,w'.heap.size=w.heap.size->w'.os=w.os->w'.tape=w.tape->w'.output=w.output->(∀d,d∉fp id->w'.heap[d]?=w.heap[d]?)->(∀d,hA w' d=hA w d)->aN (bc I C.B) w' (.osl n) (rt id) (hZ k g b l) (fp id)->
  (Builtin.copy_ #[c,q] o.type #[a.eval m,a.eval d1]).run E.P w=.ok (goInt ((min g.length (l-b):Nat):Int)) w'->o.wp E.P a w next d4:=by
  intro w' i3 i8 jp kd kg la k0 N;have N:(execOp a.eval o).run E.P w=.ok (.value (goInt ((min g.length (l-b):Nat):Int))) w':=(by simp only[execOp,hv,resolve,invoke,builtin,Sem.run_bind,Sem.run_pure,Result.andThen_ok,vZ,er,List.map_nil,N]);have hw:=co.bZ (S:=[id]) (keep:=[(id,[])]) (new:=[(id,⟨.osl n,hZ k g b l⟩)]) (rtn:=rt) (fpn:=fp) (w':=w') (I':=I)
   ⟨Nat.le_of_eq i3.symm,i8,jp,kd,λd Y f8=>kg d (f8 id ac _ O),λd _=>.of_eq (la d),λ_ H=>H,λ_ H=>.inl H,(by
    intro f ds s;rw[bY] at s;split at s
    ·rename_i p;subst p;cases s;exact⟨.inl ac,k0,lb,λd Y=>⟨(f0 d Y).1,by have:=(f0 d Y).2.2.1;omega,.inr ⟨_,ac,_,O,Y⟩⟩⟩
    ·cases s),(by
    intro f e nx n5 s dl gv;rw[bY] at s dl;split at s
    ·split at dl
     ·rename_i aj bl;exact absurd (aj.symm.trans bl) gv
     ·cases dl
    ·cases s),(by
    intro p A ds am;simp only[eS] at A;subst A;have am:al st.h id=some ds:=am;rw[O] at am;obtain rfl:=dV am;exact⟨⟨.osl n,hZ k g b l⟩,by rw[bY,if_pos rfl],rfl,rfl,⟨_,rfl⟩,λi2 _ _ _ u=>by rw[Bp] at u;cases u⟩),(by
    intro p A ds _ i2 _ _ _ _ _ Z;simp only[eS] at A;subst A;rw[sD] at Z;cases Z)⟩
  unfold Oper.wp;rw[N];show next (a.put o.dst _) w'
  rw[Z];have ad:=hw.put gf (av:=.val (.int .i64) ((min g.length (l-b):Nat):Int)) (v:=goInt ((min g.length (l-b):Nat):Int)) (.val (τ:=.int .i64) (cs:=[.int .i64 _]) ⟨rfl,rfl⟩);have hrel:ff C ((br.mk (some (W,.val (.int .i64) ((min g.length (l-b):Nat):Int))) [id] [(id,[])] [(id,⟨.osl n,hZ k g b l⟩)]).app st) (a.put (some W) (goInt ((min g.length (l-b):Nat):Int))).tmps w':=(by rw[br.R6];exact⟨I,_,_,ad⟩);exact hs _ _ _ ⟨_,f6,rfl⟩ rfl hrel
 have hi:Nat.min g.length (l-b)=min g.length (l-b):=rfl;by_cases u:min g.length (l-b)=0
 ·have gc:hZ k g b l=k:=by
   apply gY;intro f;rw[Im J K,if_neg U]
  refine d7 w rfl rfl rfl rfl (λ_ _=>rfl) (λ_=>rfl) (by rw[gc];exact d0) ?_;rw[eq,fn,u];exact run_copy_none w c q o.type d3 a4 f1 _ _ _ _ d9 (by rw[ap.info];simp[ap.size,t]) (by rw[hi];exact u)
 ·rcases ib with mo|⟨d,j,V,em,rfl⟩
  ·omega
  rw[em] at d0;obtain⟨lp,mc,aj,bl⟩:=d0;simp only[fY,Value.slice.injEq,and_true] at aj;obtain⟨rfl,_,rfl⟩:=aj;rcases bl with⟨bd,_⟩|⟨lt,no,G,bd,c2,bB,ce,ci,d8⟩
  ·cases bd
  cases bd;have ce:k.length<=V:=ce;have bB:G.length=k.length:=bB;have go:G.flatten=[]:=D5 (λbs L=>by
   obtain⟨f,s,rfl⟩:=fH.1 L;have mz:f<k.length:=(by rw[<-bB];exact s);obtain⟨D,_,_,F⟩:=d8 f k[f] G[f] ac ac;exact F.pure ad)
  rw[go] at c2;obtain⟨an,ft,is,i0,i1⟩:=c1.cells U;rw[t,Nat.mul_one] at ft;have ex:g≠[]:=λp=>(by rw[p] at u;simp at u);obtain⟨a0,rfl⟩:∃a0,f1=some a0:=by
   rcases c1.2 with H|⟨l2,nn,rfl,_⟩
   ·exact absurd H ex
   ·exact⟨_,rfl⟩
  let i:=an.take (min g.length (l-b))
  have ek:i.length=min g.length (l-b):=(by simp[i,ft]);have ge:∀e v,i[e]?=some v->an[e]?=some v:=λe v r=>by
   rw[rU] at r;split at r
   ·exact r
   ·cases r
  have cv:∀e,e<i.length->(w.cell? ⟨d,j+b+e,none⟩).isSome=true:=λe r=>(ci (j+b+e) U (by rw[t];omega)).1;have N:=run_copy_cells (P:=E.P) w c q o.type d3 d (j+b) (l-b) d5 a0 g.length le i d9 (by rw[ap.info];simp[ap.size,t]) (by rw[ek]) (λe v r=>i0 a0 rfl ex e v (ge e v r)) cv (λe r=>(ci (j+b+e) U (by rw[t];omega)).2) (λv y=>is v (List.mem_of_mem_take y));have ed:d∈fp id:=(by rw[c2];simp);have f7:∀R z,bc I C.B R z->z≠d:=λR z ab p=>co.notM O d ed R (p▸ab);refine d7 (w.setCells d (j+b) i) (vz d i _ w) (oB d i _ w).1 (oB d i _ w).2.1 (oB d i _ w).2.2 (λz u=>yn d i _ w z (λp=>u (p▸ed))) (λz=>xR _ _ _ _ _) ?_ ?_
  ·rw[em,c2];refine⟨some ⟨d,j,none⟩,V,by rw[Dt J K],.inr ⟨d,j,List.replicate k.length [],rfl,by rw[D5 (λbs L=>List.eq_of_mem_replicate L)],by rw[Dt J K];simp,by rw[Dt J K];exact ce,?_,?_⟩⟩
   ·intro e ii io;obtain⟨lk,lo⟩:=ci e ii io;exact⟨by rw[<-lk,(U:e=(j+b)+e-(j+b))];exact(F6 d i (j+b) w cv _).trans (by congr 1),by rw[World.frozen?_setCells];exact lo⟩
   ·intro f T bs Q L;have gl:bs=[]:=by
     have:=kA L;exact List.eq_of_mem_replicate this
    subst gl;rw[Im J K] at Q;have fs:∀{D:abU} {T:n.den},aN (bc I C.B) w n D T []->aN (bc I C.B) (w.setCells d (j+b) i) n D T []:=λM=>M.mono (λR z ab=>⟨ab,pV (f7 R z ab)⟩) ac;split at Q
    ·rename_i mt;have r:f-b<i.length:=U;have gt:X[f-b]?=some []:=by
      have el:f-b<X.length:=(by rw[c1.1];omega);rw[be el];have:X[f-b]∈X:=bI el;congr 1;exact(List.flatten_eq_nil_iff.1 gs) _ this
     have M:=i1 (f-b) T [] Q gt;rw[t,Nat.mul_one] at M;have gi:(an.drop (f-b)).take 1=[i[f-b]]:=(by have hc:f-b<an.length:=U;rw[List.drop_eq_getElem_cons hc];simp only[List.take_succ_cons,List.take_zero,fY,and_true];simp[i]);rw[gi] at M;refine⟨[i[f-b]],by simp[t],?_,fs M⟩;intro e v y;cases e with
     |zero=>
      simp only[iY,bH] at y;subst y;have:=World.cell?_setCells_in d i (j+b) w cv (f-b) r;rw[<-this,t];congr 2;omega
     |succ e=>simp at y
    ·rename_i nd;have mp:f<k.length:=(ey.1 Q).1;obtain⟨D,d6,f3,F⟩:=d8 f T (G[f]'(by omega)) Q ac
     have A:G[f]'(by omega)=[]:=F.pure ad
     rw[A] at F;refine⟨D,d6,?_,fs F⟩;intro e v y;have:=f3 e v y;have r:e<D.length:=(ey.1 y).1;rw[World.cell?_setCells_out d i (j+b) w _ (λ_ _=>?_)]
     ·exact this
     ·rw[d6,t] at r;simp only[t];omega
  ·rw[eq,fn];have:goInt ((min g.length (l-b):Nat):Int)=goInt i.length:=(by rw[ek]);rw[this];exact N
theorem dz.copy {S:Type} {O:S} {H:br->Option S} {R:Operand} (B:o.op=.call {callee:=.builtin .copy,args:=#[m,R],argTypes:=#[c,q]}) (x:o.dst=some b) (y:C.ok b) (d:pk E.tt st.h b c (aO st.g m) (aO st.g R) H=some O):dz E C o st (λY=>∃L,H L=some O/\Y=L.app st):=by
 rintro a w ⟨I,rt,fp,f⟩ next am A
 have k:=f.aO m;unfold pk at d;split at d
 ·cases d
 rename_i P D;split at d
 ·rename_i id v;split at d
  case h_2=>cases d
  rename_i j Q i;cases e:(a5 P j&&Nat.beq j.size 1&&j.pure) with
  |false=>rw[e] at d;cases d
  |true=>
  rw[e] at d;simp only[bg] at e;obtain⟨ab,p,d⟩:=c9.1 d;rw[v] at k;generalize n:a.eval m=Z at k;cases k with|ref l z=>
  rw[i] at l;cases l;obtain⟨rfl,rfl,rfl⟩:=aP.eX.1 z;have G:=(f.tree id _ i).1;obtain⟨J,s,aj,M⟩:=G;have U:a.eval m=.slice J (Q.length-0) s:=(by rw[n,aj];rfl);refine Ds f B x y A D e.1.1 (es e.1.2) e.2 i (bN _) (aY _) (GD f p) U ?_ d;rcases M with⟨_,rfl,_⟩|⟨r,F,an,rfl,_⟩
  ·exact .inl rfl
  ·exact .inr ⟨r,F,s,aj,rfl⟩
 ·rename_i id X ap v;split at d
  case h_2=>cases d
  rename_i j Q i;cases e:(a5 P j&&Nat.beq j.size 1&&j.pure) with
  |false=>rw[e] at d;cases d
  |true=>
  rw[e] at d;simp only[bg] at e;obtain⟨ab,p,d⟩:=c9.1 d;rw[v] at k;generalize n:a.eval m=Z at k;cases k with|ku=>(exact Ds f B x y A D e.1.1 (es e.1.2) e.2 i (aY _) (bN _) (GD f p) n (.inl rfl) d)|view l z V W av=>
  rw[i] at l;cases l;rename_i ad a3 r F a0 s;obtain⟨t,_,u⟩:=aP.eX.1 z;have t:ah.osl j=ah.osl ad:=t;cases t;have N:=es e.1.2;have G:=(f.tree id _ i).1;obtain⟨J,K,aj,M⟩:=G;rw[aj] at u;simp only[fY,Value.slice.injEq,and_true] at u;obtain⟨rfl,rfl,rfl⟩:=u;refine Ds f B x y A D e.1.1 N e.2 i V W (GD f p) n ?_ d;by_cases T:K=X
  ·left;omega
  ·exact .inr ⟨r,F,K,aj,by rw[if_neg T,N,Nat.mul_one]⟩
 ·cases d
end
end
section
theorem aP.cells {w q:World} (e:∀a,q.cell? a=w.cell? a):∀{p:List aV} {τ r:ah} {m n:Loc} {f g:abU},aP w τ m f p r n g->aP q τ m f p r n g
 |[],τ,_,_,_,_,_,c=>by cases τ<;>exact c
 |s::p,τ,r,m,n,f,g,c=>by
  have u:∀{b o:Nat} {d:abU},dS w b o d->dS q b o d:=λy A C z=>(by rw[e];exact y A C z);cases τ<;>cases s<;>simp only[aP] at c
  case osl.idx t i=>
   obtain⟨b,o,B,v,d,h,j,k,l,x⟩:=c;exact⟨b,o,B,v,d,h,j,k,u l,x.cells e⟩
  case optr.deref t=>
   obtain⟨b,o,d,h,j,k,l⟩:=c;exact⟨b,o,d,h,j,u k,l.cells e⟩
  case st.unst t=>exact aP.cells e (τ:=t) c
  case pr.fst a b=>exact aP.cells e (τ:=a) c
  case pr.snd a b=>exact aP.cells e (τ:=b) c
theorem aa3 (a:ah):dO a []=some a:=by cases a<;>rfl
theorem aP.vD {w:World} {r:List aV}:∀{p:List aV} {τ c:ah} {m n:Loc} {e f:abU},aP w τ m e p c n f->dO τ (p++r)=dO c r
 |[],τ,_,_,_,_,_,a=>by obtain⟨rfl,_⟩:=aP.eX.1 a;rfl
 |s::p,τ,_,_,_,_,_,a=>by
  cases τ<;>cases s<;>simp only[aP] at a
  case osl.idx t i=>obtain⟨d,o,u,q,g,h,j,k,b,l⟩:=a;exact l.vD
  case optr.deref t=>obtain⟨d,o,g,h,j,k,b⟩:=a;exact b.vD
  case st.unst t=>exact aP.vD (p:=p) (τ:=t) a
  case pr.fst t1 t2=>exact aP.vD (p:=p) (τ:=t1) a
  case pr.snd t1 t2=>exact aP.vD (p:=p) (τ:=t2) a
section
variable {E:dY} {C:dA} {st:aH} {a:Act} {A:abS} {w:World} {I:Nat->Prop} {rt:Nat->abU} {fp:Nat->ab0} {o:Oper} {Q:aH->Prop}
theorem Ir:∀{p q:List aV},jx (p++[.deref]) q=true->jx p q=true
 |[],q,a=>by
  cases q with
  |nil=>cases a
  |cons s q=>
   cases s<;>cases a
 |s::p,[],a=>by cases s<;>cases a
 |s::p,b::q,a=>by cases s<;>cases b<;>first|(cases a;done)|exact Ir (p:=p) (q:=q) a|rfl
theorem bE.BC (y:bE C st A w I rt fp) {id:Nat} (p:al st.h id=some G) {ap:Loc} {R:abU} (W:aP w G.1 none (rt id) j x ap R) {ad:List (Int×n.den)} (c1:db G.1 G.2 j (.mp n) (some (ad,b))):∃c K H,R=[.map (some c)]/\c∈fp id/\(∀q a,bc I C.B q a->a≠c)/\fI (bc I C.B) w n c ad b K H/\∀{k:Array MapEntry} {e:Nat} {F:List (Int×n.den)} {Q:List (Int×Nat×n.den)} {s:G.1.den},fI (bc I C.B) (e9 w c k e) n c F e k Q->jj w (e9 w c k e) c->dH G.1 G.2 j (.mp n) (some (F,e)) s->∃el a4,bE C ⟨kill [id] [(id,j++[.deref])] st.g,(id,⟨G.1,s⟩)::del [id] st.h⟩ A (e9 w c k e) I el a4:=by
 obtain⟨d4,M,T⟩:=y.tree id G p;obtain⟨f3,fn,ft,ek,bd,bl,bs,v,fz,bB,ce⟩:=xz j (loc:=none) d4 (λ_ _ l=>by cases l) M (λ_ _ l=>by cases l) (y.notM p) c1;obtain⟨a0,aj,J⟩:=W.iu bd;subst a0;subst aj;subst J;obtain⟨c,K,H,rfl,rfl,L⟩:=bl.Kn;have z:c∈fp id:=v.mem_iff.2 ac;have S:∀q a,bc I C.B q a->a≠c:=λq a d f=>y.notM p c z q (f▸d);refine⟨c,K,H,rfl,z,S,L,?_⟩;intro k e F Q s co cs Z;have X:=v.nodup_iff.1 M;rw[iJ] at X;have Y:∀a∈ek,a≠c:=λa d f=>X.2.2 c ac a d f.symm;have D:=aak (es':=k) (c':=e) L.h;have cv:=aal (es':=k) (c':=e) L.h;have ab:∀a,a≠c->bU w (e9 w c k e) a:=λa d=>Co d;obtain⟨fs,a3,d6,_,d7,_,O,_,f0⟩:=bB (e9 w c k e) (bc I C.B) [.map (some c)] (some (F,e)) [c] s (λ_ _ l=>l) (λa d=>by
   have dl:a≠c:=by
    rcases d with⟨q,ds⟩|d|⟨o,d2⟩
    ·exact S q a ds
    ·exact Y a d
    ·cases d2
   exact⟨λu _=>D _,λu=>cv _,λu=>by rw[D],(ab a dl).2⟩)
  (aN.Ko co) (λ_ _=>rfl) (λav d8 f=>by
   have:=(bs av d8 f).1;exactλu an t=>by rw[D];exact this u an t) Z
 obtain rfl:=d7 rfl (.inr rfl);have fT:=(T c z).2.2.1;have i:lJ C st w (e9 w c k e) I I rt fp [id] [(id,j++[.deref])] [(id,⟨G.1,s⟩)] (λ_=>rt id) (λ_=>a3):=by
  refine⟨by rw[Mx];exact aY _,rfl,rfl,rfl,?_,?_,λ_ l=>l,λ_ l=>.inl l,?_,?_,?_,?_⟩
  ·intro a _ d;exact yo (λf=>d id ac G p (f▸z))
  ·intro a _;by_cases f:a=c
   ·subst f;exact cs
   ·exact .of_heap (yo f)
  ·intro N P i;rw[bY] at i;split at i
   ·rename_i f;subst f;cases i;refine⟨.inl ac,d6,?_,λa d=>?_⟩
    ·rw[O.nodup_iff,<-v.nodup_iff];exact M
    ·have V:a∈fp id:=v.mem_iff.2 (O.mem_iff.1 d);obtain⟨ar,d9,ed,f5⟩:=T a V;exact⟨ar,by rw[Mx];exact ed,.inr ⟨id,ac,G,p,V⟩⟩
   ·cases i
  ·intro N u P an m t c2;rw[bY] at m t;split at m
   ·split at t
    ·rename_i aj J;exact absurd (aj.symm.trans J) c2
    ·cases t
   ·cases m
  ·intro N m P i;simp only[eS] at m;subst m;rw[p] at i;obtain rfl:=dV i;refine⟨⟨G.1,s⟩,by rw[bY,if_pos rfl],rfl,rfl,?_,λam f8 f4 ex _ d3=>d3.cells D⟩;have ci:=W.vD (r:=[.deref]);have:∃em,dO (.mp n) [.deref]=some em:=⟨n,aa3 n⟩;rw[ci];exact this
  ·intro N m P i am f7 f6 f1 eq f2 E d1 d0 U d5;simp only[eS] at m;subst m;rw[p] at i;obtain rfl:=dV i;have E:=Ir E;refine⟨⟨G.1,s⟩,by rw[bY,if_pos rfl],sE E Z U,λa d=>?_⟩;obtain⟨ar,d9⟩:=ce am _ _ _ _ _ E (by exact d1) U d0 d5 a d;exact⟨O.mem_iff.2 (k4 _ ar),ab a (Y a ar)⟩
 exact⟨_,_,y.bZ i⟩
def pH {α:Type} (c:Option (List (Int×α)×Nat)) (b:Int) (d:α):Option (Option (List (Int×α)×Nat)):=match c with
 |none=>none
 |some a=>some (some (hk a.1 b d,bif (en a.1 b).isSome then a.2 else a.2+1))
def mL {f:Type} (tt:List (TypeId×ah)) (i:List (Nat×aB)) (h:TypeId) (n d m:ak) (g:br->Option f):Option f:=
 match n with
 |.ref id c=>match al i id with
  |some a=>match jE tt h,d,m with
   |some l,.val (.int .i64) d,.val p e=>match dO a.1 c with
    |some (.mp b)=>bif a5 l b then match gJ b e with
     |some e=>(gA a.1 a.2 c (.mp b)).bind λj=>(pH (α:=b.den) j d e).bind λk=>(kU a.1 a.2 c (.mp b) k).bind λo=>g ⟨none,[id],[(id,c++[.deref])],[(id,⟨a.1,o⟩)]⟩
     |none=>none
     else none
    |_=>none
   |_,_,_=>none
  |none=>none
 |_=>none
def VN {α:Type} (c:Option (List (Int×α)×Nat)) (b:Int):Option (Option (List (Int×α)×Nat)):=match c with
 |none=>none
 |some a=>some (some (hO a.1 b,a.2))
def pJ {e:Type} (tt:List (TypeId×ah)) (h:List (Nat×aB)) (g:TypeId) (l d:ak) (f:br->Option e):Option e:=
 match l with
 |.ref id b=>match al h id with
  |some a=>match jE tt g,d with
   |some k,.val (.int .i64) d=>match dO a.1 b with
    |some (.mp c)=>bif a5 k c then
     (gA a.1 a.2 b (.mp c)).bind λi=>(VN (α:=c.den) i d).bind λj=>(kU a.1 a.2 b (.mp c) j).bind λm=>f ⟨none,[id],[(id,b++[.deref])],[(id,⟨a.1,m⟩)]⟩
     else none
    |_=>none
   |_,_=>none
  |none=>none
 |_=>none
theorem Kt {D:Type} {A:D} {s:br->Option D} {f e:Operand} (j:o.op=.mapUpdate c f m e\/o.op=.insert c f m e) (T:o.dst=none) (b:mL E.tt st.h c (aO st.g f) (aO st.g m) (aO st.g e) s=some A):dz E C o st (λbB=>∃u,s u=some A/\bB=u.app st):=by
 rintro a w ⟨I,rt,fp,i⟩ next dl X
 have q:=i.aO f;have d:=i.aO m;have p:=i.aO e;unfold mL at b;split at b
 case h_2=>cases b
 rename_i id d2 J;split at b
 case h_2=>cases b
 rename_i ed y;split at b
 case h_2=>cases b
 rename_i co k d9 d7 S F H;obtain⟨cs,c2,ce,ci,d3⟩:=jE.ok S;split at b
 case h_2=>cases b
 rename_i r Z;cases n:a5 co r with
 |false=>rw[n] at b;cases b
 |true=>
 rw[n] at b;simp only[cond_true] at b;split at b
 case h_2=>cases b
 rename_i d6 am;obtain⟨a0,V,L⟩:=c9.1 b;obtain⟨d1,v,M⟩:=c9.1 L;obtain⟨d8,an,N⟩:=c9.1 M;cases a0 with
 |none=>cases v
 |some a3=>
 obtain⟨ap,t⟩:=a3;cases v;cases jb am;rw[J] at q;rw[F] at d;rw[H] at p;generalize ad:a.eval f=d5 at q;generalize W:a.eval m=d0 at d;generalize ab:a.eval e=d4 at p;cases d with|val bl=>
 obtain⟨_,rfl⟩:=bl;cases p with|val B=>
 cases q with|ref z x=>
 rw[y] at z;cases z;obtain⟨l,ds,cv,rfl,n,Q,O,U⟩:=i.BC y x (hh V);have:=x.ty;rw[Z] at this;cases this;obtain⟨G,c1,ar,a4,bd⟩:=O.update (P:=E.P) ce ci k B.len B;obtain⟨bs,K,R⟩:=U (a4 (λav m d=>⟨d,Q av m d⟩)) bd (lw an);unfold Oper.wp;have Y:(execOp a.eval o).run E.P w=.ok .skip (e9 w l G (bif (en ap k).isSome then t else t+1)):=by
  have this:∀r:ah,bL (.mp r) [Value.map (some l)]=.map (some l):=λ_=>rfl;rcases j with j|j<;>
  ·simp only[execOp,j,ad,W,ab,Sem.run_bind];rw[this,show bL (.int .i64) [Value.int .i64 k]=.int .i64 k from rfl,ar];rfl
 rw[Y];show next (a.put o.dst undef) _
 rw[T];refine X _ _ _ ⟨_,N,?_⟩ rfl ⟨I,bs,K,R⟩;rfl
theorem VX {y:Type} {x:y} {p:br->Option y} {e:Operand} (U:o.op=.call {callee:=.builtin .delete,args:=#[e,m],argTypes:=#[c,q]}) (O:o.dst=none) (b:pJ E.tt st.h c (aO st.g e) (aO st.g m) p=some x):dz E C o st (λa0=>∃r,p r=some x/\a0=r.app st):=by
 rintro a w ⟨I,rt,fp,i⟩ next ci T
 have k:=i.aO e;have d:=i.aO m;unfold pJ at b;split at b
 case h_2=>cases b
 rename_i id c2 D;split at b
 case h_2=>cases b
 rename_i d1 u;split at b
 case h_2=>cases b
 rename_i bd l N A;obtain⟨bl,ce,a3,a4,dl⟩:=jE.ok N;split at b
 case h_2=>cases b
 rename_i n W;cases j:a5 bd n with
 |false=>rw[j] at b;cases b
 |true=>
 rw[j] at b;simp only[cond_true] at b;obtain⟨ab,R,G⟩:=c9.1 b;obtain⟨c1,s,H⟩:=c9.1 G;obtain⟨d0,Y,J⟩:=c9.1 H;cases ab with
 |none=>cases s
 |some ad=>
 obtain⟨cv,z⟩:=ad;cases s;rw[D] at k;rw[A] at d;generalize X:a.eval e=ds at k;generalize S:a.eval m=cs at d;cases d with|val ap=>
 obtain⟨_,rfl⟩:=ap;cases k with|ref v t=>
 rw[u] at v;cases v;obtain⟨f,co,bs,rfl,j,L,K,Q⟩:=i.BC u t (hh R);have:=t.ty;rw[W] at this;cases this;obtain⟨B,bB,ar,am,an⟩:=K.delete (P:=E.P) a3 a4 l o.type q;obtain⟨av,F,M⟩:=Q (am (λZ m d=>⟨d,L Z m d⟩)) an (lw Y);unfold Oper.wp;have V:(execOp a.eval o).run E.P w=.ok (.value (.tuple #[])) (e9 w f B z):=(by simp only[execOp,U,resolve,invoke,builtin,Sem.run_bind,Sem.run_pure,Result.andThen_ok,vZ,er,List.map_nil,X,S];have this:∀n:ah,bL (.mp n) [Value.map (some f)]=.map (some f):=λ_=>rfl;rw[this,show bL (.int .i64) [Value.int .i64 l]=.int .i64 l from rfl,ar];rfl);rw[V];show next (a.put o.dst (.tuple #[])) _
 rw[O];refine T _ _ _ ⟨_,J,?_⟩ rfl ⟨I,av,F,M⟩;rfl
def te (c:List (Nat×aB)) (f g:ak):Option (Nat×List aV×Nat×aB):=match f,g with
 |.ref id (e::d),.ref a []=>match al c a with
  |some b=>match b.1 with
   |.osl h=>match h.pure with
    |true=>none
    |false=>some (id,e::d,a,b)
   |_=>none
  |none=>none
 |_,_=>none
def wh {h:Type} (tt:List (TypeId×ah)) (e:List (Nat×aB)) (b:Nat) (j:TypeId) (id:Nat) (c:List aV) (f:Nat) (k:aB) (i:br->Option h):Option h:=
 match e7 tt j,al e id,al e b with
 |some l,some d,none=>match dO d.1 c with
  |some (.osl a)=>match gJ (.osl a) k.2 with
   |some g=>bif a5 l a&&(Nat.ble a.size 1300&&(a.ix&&!(Nat.beq f id))) then
    (gA d.1 d.2 c (.osl a)).bind λm=>(bS (List.length (α:=a.den) m+List.length (α:=a.den) g)).bind λ_=>i ⟨some (b,.app id c a g [b,f]),[id],[(id,c),(id,[])],[(b,⟨.de,()⟩),(id,d)]⟩
    else none
   |none=>none
  |_=>none
 |_,_,_=>none
def mw {g:Type} (tt:List (TypeId×ah)) (h:List (Nat×ah)) (a:List (Nat×aB)) (d:Nat) (c:TypeId) (e f:ak) (b:br->Option g):Option g:=match te a e f with
 |some (id,j,i,k)=>wh tt a d c id j i k b
 |none=>nf tt h a d c e f b
theorem FB {id:Nat} (a:te e d t=some (id,j,b,G)):d=.ref id j/\t=.ref b []/\al e b=some G:=by
 unfold te at a;split at a
 ·split at a
  ·rename_i f c;split at a
   ·split at a
    ·cases a
    ·cases a;exact⟨rfl,rfl,c⟩
   ·cases a
  ·cases a
 ·cases a
theorem R3 {K:Type} {F:K} {s:br->Option K} {H:Operand} (z:o.op=.call {callee:=.builtin .append,args:=#[H,m],argTypes:=#[c,c]}) (v:o.dst=some b) (x:C.ok b) (d:mw E.tt k st.h b c (aO st.g H) (aO st.g m) s=some F):dz E C o st (λa4=>∃e,s e=some F/\a4=e.app st):=by
 unfold mw at d;split at d
 case h_2=>exact dz.app z v x (R0 d (λe q=>⟨e,q,rfl⟩))
 rename_i id cs i bd ab;obtain⟨R,S,n⟩:=FB ab;unfold wh at d;split at d
 case h_2=>cases d
 rename_i bl d0 P am Q;split at d
 case h_2=>cases d
 rename_i j ce;split at d
 case h_2=>cases d
 rename_i dl ap;cases f:(a5 bl j&&(Nat.ble j.size 1300&&(j.ix&&!(Nat.beq i id)))) with
 |false=>rw[f] at d;cases d
 |true=>
 rw[f] at d;simp only[bg] at f;obtain⟨V,ad,Y,l⟩:=f;have l:i≠id:=λe=>(by subst e;rw[o5] at l;cases l);obtain⟨c2,an,N⟩:=c9.1 d;obtain⟨_,W,O⟩:=c9.1 N;obtain⟨ds,J⟩:=bd;cases jb ap;rintro a w ⟨I,rt,fp,p⟩ next bs Z
 refine Hz (S2:=[i]) z v x p Z P V (eT ad) Y R am Q (hh an) ?_ ?_ (u4 W) ⟨_,O,rfl⟩
 ·have r:=p.aO m;rw[S] at r;generalize ci:a.eval m=c1 at r;cases r with|ref D X=>
  rw[n] at D;cases D;obtain⟨rfl,rfl,rfl⟩:=aP.eX.1 X;obtain⟨G,a3,cv⟩:=p.tree i _ n;have av:=G;obtain⟨t,u,A,bB⟩:=av;have a0:aN (bc I C.B) w (.osl j) [.slice t (List.length (α:=j.den) J) u] J (fp i):=(by rw[<-A];exact G);obtain⟨_,_,M,q,T,U,_⟩:=iV.osl a0;exact⟨t,u,M,by rw[A];rfl,q,U a3,λL f=>⟨i,ac,_,n,T L f⟩⟩
 ·intro co y;simp only[eS] at y;subst y;exact⟨l,_,n⟩
end
end
section
section
variable {P:Program} {w:World} {b c:Nat} {A:Array MapEntry} {M:dd->Nat->Prop} {t:ah} {l:List (Int×t.den)} {L:List (Int×Nat×t.den)}
theorem F7 {d f:Array MapEntry} {e:Nat} (g:w.heap[b]?=some (.map A c)) (h:e9 w b d W=e9 w b f e):d=f/\W=e:=by have a:=ma (es':=d) (c':=W) g;rw[h,ma g] at a;simp only[bH,Obj.map.injEq] at a;exact⟨a.1.symm,a.2.symm⟩
theorem fI.HK (f:fI M w t b l c A L) (h:A[W]?=some O):∃d a,L[W]?=some d/\O=⟨.int .i64 d.1,bL t a,d.2.1⟩:=by have i:W<L.length:=(by have:=(md.1 h).1;rw[f.n] at this;exact this);obtain⟨a,_,g,_⟩:=f.e W L[W] (be i);rw[h] at g;exact⟨L[W],a,be i,dV g⟩
theorem fI.aa9 (h:fI M w t b l c A L) {a:Nat} {e f:Int×Nat×t.den} (d:L[W]?=some e) (m:L[a]?=some f) (g:e.1=f.1):W=a:=by have n:=h.nu.vg;have k:W<(L.map (·.1)).length:=(by have:=(ey.1 d).1;simpa using this);apply(List.getElem?_inj k n (i:=W) (j:=a)).1;rw[eN,eN,d,m];simp[g]
theorem fI.aa8 (h:fI M w t b l c A L) {d:Nat} {f a:Int×Nat×t.den} (e:L[W]?=some f) (m:L[d]?=some a) (g:f.2.1=a.2.1):W=d:=by have n:=h.nu.2.2.1;have k:W<(L.map λa=>a.2.1).length:=(by have:=(ey.1 e).1;simpa using this);apply(List.getElem?_inj k n (i:=W) (j:=d)).1;rw[eN,eN,e,m];simp[g]
theorem Km {c:Array a} {d e:a->a} (f:∀b,c[W]?=some b->d b=e b):c.modify W d=c.modify W e:=by
 apply Array.ext_getElem?;intro i;rw[p6,p6];split
 ·rename_i b;subst b;cases g:c[W]? with
  |none=>rfl
  |some h=>simp[f h g]
 ·rfl
theorem fI.entry (d:fI M w t b l c A L) {B z:TypeId} {R:IntKind} (n:P.underlying q=some (.map B z)) (g:P.underlying B=some (.int R)) (a:Int) {y:t.den} (O:E.length=t.size) (I:aN M w t E y []) (Q:∀w,(zeroValue z).run P w=.ok (bL t E) w):∃(f:Array MapEntry) (o:List (Int×Nat×t.den)) (v:abU) (p e:Nat),(Instr.mapEntry q (.map (some b)) (.int .i64 a)).run P w=.ok (.tuple #[bL t v,goInt ((p:Nat):Int)]) (e9 w b f (bif (en l a).isSome then c else c+1))/\aN M w t v ((en l a).getD y) []/\f[e]?=some (MapEntry.mk (.int .i64 a) (bL t v) p)/\(∀{C:dd->Nat->Prop},(∀J a,M J a->C J a/\a≠b)->fI C (e9 w b f (bif (en l a).isSome then c else c+1)) t b (hk l a ((en l a).getD y)) (bif (en l a).isSome then c else c+1) f o)/\jj w (e9 w b f (bif (en l a).isSome then c else c+1)) b:=by
 rcases d.find (P:=P) g a with⟨x,N,s⟩|⟨e,p,T,r,x,N,s,u,D,F⟩
 ·obtain⟨f,o,ar,i,j⟩:=d.update (P:=P) n g a O I;rw[x] at ar i j|-;simp only[Option.isSome_none,cond_false,Option.getD_none] at ar i j|-;have k:(Instr.mapUpdate q (.map (some b)) (.int .i64 a) (bL t E)).run P w=.ok () (e9 w b (A.push ⟨.int .i64 a,bL t E,c⟩) (c+1)):=by
   simp only[Instr.mapUpdate,Sem.run_bind,run_underlying n,Result.andThen_ok,run_getObj_map d.h,mR g,s];exact oA d.h
  rw[ar] at k;simp only[Result.ok.injEq,true_and] at k;obtain⟨rfl,_⟩:=F7 d.h k;refine⟨_,o,E,c,A.size,?_,I,by rw[vK,if_pos rfl],i,j⟩;simp only[Instr.mapEntry,Sem.run_bind,run_underlying n,Result.andThen_ok,run_getObj_map d.h,mR g,s,Q,oA d.h,Sem.run_pure];rfl
 ·obtain⟨f,o,ar,i,j⟩:=d.update (P:=P) n g a s D;rw[x] at ar i j|-;simp only[yR,cond_true,kB] at ar i j|-;have H:(Instr.keyThatStays (((A[e]?).map (·.key)).getD (.int .i64 a)) (.int .i64 a)).run P w=.ok (.int .i64 a) w:=by
   rw[u];simp[Instr.keyThatStays,Instr.sameBits]
  have k:(Instr.mapUpdate q (.map (some b)) (.int .i64 a) (bL t r)).run P w=.ok () (e9 w b (A.modify e λm=>{m with key:=.int .i64 a,val:=bL t r}) c):=(by simp only[Instr.mapUpdate,Sem.run_bind,run_underlying n,Result.andThen_ok,run_getObj_map d.h,mR g,F,H];exact oA d.h);rw[ar] at k;simp only[Result.ok.injEq,true_and] at k;obtain⟨rfl,_⟩:=F7 d.h k;refine⟨_,o,r,p,e,?_,D,by rw[p6,if_pos rfl,u];rfl,i,j⟩;have aj:(A.modify e λm=>{m with key:=.int .i64 a,val:=bL t r})=A.modify e λm=>{m with key:=.int .i64 a}:=Km λm G=>(by rw[u] at G;cases G;rfl);have K:((A[e]?).map λS=>((S.born:Nat):Int)).getD 0=(p:Int):=(by rw[u];rfl);simp only[Instr.mapEntry,Sem.run_bind,run_underlying n,Result.andThen_ok,run_getObj_map d.h,mR g,F,H,oA d.h,Sem.run_pure,aj,K];rfl
theorem fI.TL (d:fI M w t b l c A L) {a:Int} (i:A[W]?=some O) (o:O.key=.int .i64 a) {y J:TypeId} {an:IntKind} (C:P.underlying q=some (.map y J)) (n:P.underlying y=some (.int an)) {I:t.den} (T:E.length=t.size) (am:aN M w t E I []):∃f k,(Instr.entryStore q (.map (some b)) (.int .i64 (O.born:Int)) (bL t E)).run P w=.ok () (e9 w b f (bif (en l a).isSome then c else c+1))/\(∀{z:dd->Nat->Prop},(∀G a,M G a->z G a/\a≠b)->fI z (e9 w b f (bif (en l a).isSome then c else c+1)) t b (hk l a I) (bif (en l a).isSome then c else c+1) f k)/\jj w (e9 w b f (bif (en l a).isSome then c else c+1)) b:=by
 obtain⟨j,a3,p,D⟩:=d.HK i;have F:j.1=a:=(by rw[D] at o;simpa using o);rcases d.find (P:=P) n a with⟨B,m,K⟩|⟨e,ci,co,a0,B,m,K,N,bd,Q⟩
 ·exact absurd F (m j (kA p))
 obtain rfl:e=W:=d.aa9 m p (by simp[F]);obtain⟨f,k,ar,u,v⟩:=d.update (P:=P) C n a T am;rw[B] at ar u v|-;simp only[yR,cond_true] at ar u v|-;have Z:(Instr.keyThatStays (((A[e]?).map (·.key)).getD (.int .i64 a)) (.int .i64 a)).run P w=.ok (.int .i64 a) w:=(by rw[N];simp[Instr.keyThatStays,Instr.sameBits]);have x:(Instr.mapUpdate q (.map (some b)) (.int .i64 a) (bL t E)).run P w=.ok () (e9 w b (A.modify e λO=>{O with key:=.int .i64 a,val:=bL t E}) c):=(by simp only[Instr.mapUpdate,Sem.run_bind,run_underlying C,Result.andThen_ok,run_getObj_map d.h,mR n,Q,Z];exact oA d.h);rw[ar] at x;simp only[Result.ok.injEq,true_and] at x;obtain⟨rfl,_⟩:=F7 d.h x;refine⟨_,k,?_,u,v⟩;have aj:(A.modify e λO=>{O with key:=.int .i64 a,val:=bL t E})=A.modify e λO=>{O with val:=bL t E}:=Km λa4 g=>(by rw[i] at g;cases g;rw[<-o]);have V:A.findIdx? (λap=>(ap.born:Int)==(O.born:Int))=some e:=by
  rw[Array.findIdx?_eq_some_iff_getElem];have X:=(md.1 i).1;refine⟨X,?_,λr ce ab=>?_⟩
  ·rw[(md.1 i).2];simp
  ·have Y:r<A.size:=U;obtain⟨H,av,ad,g⟩:=d.HK (vJ Y);have bB:(A[r].born:Int)=(O.born:Int):=(by simpa using ab);have S:H.2.1=j.2.1:=by
    have bl:A[r].born=H.2.1:=(by rw[g]);have bs:O.born=j.2.1:=(by rw[D]);omega
   have:=d.aa8 ad p S;omega
 have R:∀(s:Int) (w:World),(asInt (.int .i64 s)).run P w=.ok s w:=λs w=>(by simp[asInt,asIntOf]);simp only[Instr.entryStore,Sem.run_bind,Sem.run_pure,Result.andThen_ok,run_getObj_map d.h,R,V,oA d.h,aj];rfl
end
def pK {f:Type} (tt:List (TypeId×ah)) (j:List (Nat×aB)) (i:Nat) (h:TypeId) (m a:ak) (g:br->Option f):Option f:=
 match m with
 |.ref id c=>match al j id with
  |some b=>match jE tt h,a with
   |some l,.val (.int .i64) a=>match dO b.1 c with
    |some (
     .mp t)=>match kw t with
     |some e=>bif a5 l t then
      (gA b.1 b.2 c (.mp t)).bind λd=>(pH (α:=t.den) d a ((iS d a).getD e)).bind λk=>(kU b.1 b.2 c (.mp t) k).bind λn=>
       g ⟨some (i,.dC [.val t ((iS (α:=t.den) d a).getD e),.jd id c a]),[id],[(id,c++[.deref])],[(id,⟨b.1,n⟩)]⟩
      else none
     |none=>none
    |_=>none
   |_,_=>none
  |none=>none
 |_=>none
def py {b:Type} (tt:List (TypeId×ah)) (e:List (Nat×aB)) (d:TypeId) (k i j:ak) (c:br->Option b):Option b:=
 match k,i with
 |.ref id a,.jd f h g=>bif Nat.beq f id&&j8 h a then mL tt e d (.ref id a) (.val (.int .i64) g) j c else none
 |_,_=>none
theorem dH.jB:∀{p:List aV} {τ:ah} {e g:τ.den} {d:ah} {f:d.den},dH τ e p d f g->db τ g p d f
 |[],τ,e,g,d,f,c=>by obtain⟨j,c⟩:=dH.eX.1 c;exact db.eX.2 ⟨j,c⟩
 |s::p,τ,e,g,d,f,c=>by
  cases τ<;>cases s<;>simp only[dH] at c
  case osl.idx t i=>
   obtain⟨j,h,k,c,rfl⟩:=c;have l:i<e.length:=(ey.1 k).1;exact⟨h,by rw[ky l],dH.jB (p:=p) c⟩
  case optr.deref t=>exact dH.jB (p:=p) (τ:=t) c
  case st.unst t=>exact dH.jB (p:=p) (τ:=t) c
  case pr.fst a b=>obtain⟨h,c,rfl⟩:=c;exact dH.jB (p:=p) c
  case pr.snd a b=>obtain⟨h,c,rfl⟩:=c;exact dH.jB (p:=p) c
theorem JF:∀a:List aV,fB (a++[.deref]) a=true
 |[]=>rfl
 |s::a=>by cases s<;>exact JF a
theorem Vj (id:Nat) (a:List aV):ej [id] [(id,a++[.deref])] (.ref id a)=.ref id a:=by
 have:j0 [(id,a++[.deref])] (.ref id a)=true:=by
  cases a with
  |nil=>simp[j0]
  |cons b a=>
   have:=JF (b::a);simp only[j0,List.any_cons,List.any_nil,Bool.or_false,o5,Bool.true_and];exact this
 show dB _ _ _=_;unfold dB;rw[show h1 [id] [(id,a++[.deref])] (.ref id a)=j0 [(id,a++[.deref])] (.ref id a) from rfl,this];simp
theorem YT {id:Nat} (a:aO D m=.ref id j):aO (kill [id] [(id,j++[.deref])] D) m=.ref id j:=by
 cases m with
 |tmp c=>
  have a:gt D c=.ref id j:=a;have b:=ns [id] [(id,j++[aV.deref])] D c;rw[a] at b;exact b.trans (Vj id j)
 |const d=>exact absurd a (by cases d<;>simp[aO])
 |global D=>cases a
 |func e=>cases a
section
variable {E:dY} {C:dA} {st:aH} {o:Oper} {Q:aH->Prop}
theorem V5 {a:Act} {e:Nat->Prop} (k:bE C i a.tmps v e y z) {id:Nat} (r:aO i.g m=.ref id j) (c:al i.h id=some G) {t:ah} {I:List (Int×t.den)} (x:db G.1 G.2 j (.mp t) (some (I,l))) {b:Nat} (H:a.eval m=.map (some b)) {f:Array MapEntry} (D:v.heap[b]?=some (.map f l)) (A:f[W]?=some O) {n:Int} (u:O.key=.int .i64 n):bG (bc e C.B) v i.h y z (.jd id j n) (.int .i64 (O.born:Int)):=by
 have d:=k.aO (a:=a) m;rw[r,H] at d;generalize F:Value.map (some b)=S at d;cases d with|ref p o=>
 rename_i R T Q L;rw[c] at p;obtain rfl:=dV p;obtain⟨rfl,N,E,_,w⟩:=k.jB c x o;rcases E.EZ with⟨O,_⟩|⟨q,P,K,M,J,_,rfl,rfl,_⟩
 ·cases O
 ·have s:b=q:=(by simpa[bL] using F);subst s;exact .jd c o (w b ac) (l1.2 D) A u
theorem V6 {V:a} {z:br->Option a} {p:Operand} (ci:o.op=.mapEntry q p m) (a0:o.dst=some W) (ap:C.ok W) (d:pK E.tt st.h W q (aO st.g p) (aO st.g m) z=some V):dz E C o st (λy=>∃G,z G=some V/\y=G.app st):=by
 rintro j w ⟨r,f5,fT,s⟩ next fz ce
 have v:=s.aO p;have e:=s.aO m;unfold pK at d;split at d
 case h_2=>cases d
 rename_i id d0 I;split at d
 case h_2=>cases d
 rename_i Z Q;split at d
 case h_2=>cases d
 rename_i ek n an ad;obtain⟨fs,ab,d8,d9,ed⟩:=jE.ok an;split at d
 case h_2=>cases d
 rename_i t cv;split at d
 case h_2=>cases d
 rename_i el c1;cases u:a5 ek t with
 |false=>rw[u] at d;cases d
 |true=>
 rw[u] at d;simp only[cond_true] at d;obtain⟨ds,bd,f⟩:=c9.1 d;obtain⟨f4,k,i⟩:=c9.1 f;obtain⟨Y,T,J⟩:=c9.1 i;clear d f i;cases ds with
 |none=>cases k
 |some d1=>
 obtain⟨l,c⟩:=d1;rw[I] at v;rw[ad] at e;generalize S:j.eval p=f7 at v;generalize bs:j.eval m=f3 at e;cases e with|val d6=>
 obtain⟨_,rfl⟩:=d6;cases v with|ref R O=>
 rw[Q] at R;cases R;obtain⟨b,A,L,rfl,f0,M,K,a4⟩:=s.BC Q O (hh bd);have:=O.ty;rw[cv] at this;cases this;obtain⟨f2,fp,em,eq,ex,fn⟩:=tF (ed.lay u) c1;have c2:∀w,(zeroValue ab).run E.P w=.ok (bL t fp.cells.toList) w:=λw=>(by rw[<-ex];simp[zeroValue,typeInfo,em,eq]);have U:=fn (bc r C.B) w;obtain⟨H,ft,F,y,f1,ar,d2,d3,d4,d5⟩:=K.entry (P:=E.P) d8 d9 n U.len U c2;have bB:iS (α:=t.den) (some (l,c)) n=en l n:=rfl;rw[bB] at k J;simp only[pH,bH] at k;subst k;generalize(bif (en l n).isSome then c else c+1)=D at*;generalize(en l n).getD el=X at*;obtain⟨d7,am,N⟩:=a4 (d4 (λx m e=>⟨e,M x m e⟩)) d5 (lw T);have cs:(execOp j.eval o).run E.P w=.ok (.value (.tuple #[bL t F,goInt ((y:Nat):Int)])) (e9 w b H D):=(by simp only[execOp,ci,S,bs,Sem.run_bind];have this:∀t:ah,bL (.mp t) [Value.map (some b)]=.map (some b):=λ_=>rfl;rw[this,show bL (.int .i64) [Value.int .i64 n]=.int .i64 n from rfl,ar];rfl);unfold Oper.wp;rw[cs];show next (j.put o.dst _) _
 rw[a0];have bl:al ((id,(⟨Z.1,Y⟩:aB))::del [id] st.h) id=some ⟨Z.1,Y⟩:=(by rw[bY,if_pos rfl]);have co:aN (bc r C.B) (e9 w b H D) t F X []:=d2.mono (λx m e=>⟨e,Co (M x m e)⟩) ac;have a3:=V5 N (YT I) bl (dH.jB (lw T)) S (ma K.h) d3 (n:=n) rfl;refine ce _ _ _ ⟨_,J,?_⟩ rfl ⟨r,d7,am,N.put ap (av:=.dC [.val t X,.jd id d0 n]) ?_⟩
 ·rfl
 ·refine .dC rfl (λdl av f6 f i=>?_)
  match dl with
  |0=>simp at f i;subst f;subst i;exact .val co
  |1=>simp at f i;subst f;subst i;exact a3
  |n+2=>simp at f
theorem TQ {N:a} {x:br->Option a} {k j:Operand} (a4:o.op=.entryStore q k m j) (ad:o.dst=none) (d:py E.tt st.h q (aO st.g k) (aO st.g m) (aO st.g j) x=some N):dz E C o st (λm=>∃y,x y=some N/\m=y.app st):=by
 rintro e w ⟨Q,fp,el,i⟩ next ek a3
 have v:=i.aO k;have r:=i.aO m;have u:=i.aO j;unfold py at d;split at d
 case h_2=>cases d
 rename_i id ds cs d0 dl V T;cases f:(Nat.beq cs id&&j8 d0 ds) with
 |false=>rw[f] at d;cases d
 |true=>
 rw[f] at d;rw[bg] at f;obtain rfl:=es f.1;obtain rfl:=j8.ok f.2;simp only[cond_true] at d;unfold mL at d;simp only at d;split at d
 case h_2=>cases d
 rename_i f4 s;split at d
 case h_2=>cases d
 rename_i d7 fn f3 f1 ab B U;simp only[ak.val.injEq,heq_eq_eq,true_and] at B;subst B;obtain⟨d8,ed,d5,d6,ft⟩:=jE.ok ab;split at d
 case h_2=>cases d
 rename_i t bs;cases H:a5 d7 t with
 |false=>rw[H] at d;cases d
 |true=>
 rw[H] at d;simp only[cond_true] at d;split at d
 case h_2=>cases d
 rename_i f0 ci;obtain⟨c2,an,D⟩:=c9.1 d;obtain⟨ex,n,F⟩:=c9.1 D;obtain⟨f2,co,X⟩:=c9.1 F;clear d D F;cases c2 with
 |none=>cases n
 |some d1=>
 obtain⟨l,c⟩:=d1;cases jb ci;rw[V] at v;rw[T] at r;rw[U] at u;generalize ce:e.eval k=fT at v;generalize bl:e.eval m=fs at r;generalize bB:e.eval j=fz at u;cases u with|val O=>
 cases r with|jd M a0 em J ap av=>
 rw[s] at M;cases M;cases v with|ref K p=>
 rw[s] at K;cases K;obtain⟨b,A,L,rfl,eq,Y,G,am⟩:=i.BC s p (hh an);have:=p.ty;rw[bs] at this;cases this;obtain⟨aj,_,z⟩:=p.iu a0;simp only[fY,Value.map.injEq,bH,and_true] at z;subst z;rw[l1.2 G.h] at J;cases J;obtain⟨S,d9,ar,d2,d3⟩:=G.TL (P:=E.P) ap av d5 d6 O.len O;simp only[pH,bH] at n;subst n;generalize(bif (en l dl).isSome then c else c+1)=R at*;obtain⟨d4,W,Z⟩:=am (d2 (λc1 cv I=>⟨I,Y c1 cv I⟩)) d3 (lw co);unfold Oper.wp;have bd:(execOp e.eval o).run E.P w=.ok .skip (e9 w b S R):=(by have this:∀t:ah,bL (.mp t) [Value.map (some b)]=.map (some b):=λ_=>rfl;simp only[execOp,a4,ce,bl,bB,Sem.run_bind];rw[this,ar];rfl);rw[bd];show next (e.put o.dst undef) _
 rw[ad];refine a3 _ _ _ ⟨_,X,?_⟩ rfl ⟨Q,d4,W,Z⟩;rfl
end
end
section
structure RN where
 c:Code
 n:Nat
 pin:Option ab0
 ds:ab0
 α:Type
 f:aH->Option α
 g:aH->α->aH
structure fG where
 tt:List (TypeId×ah)
 Cv:List (Nat×aF)
 an:List (Nat×ah)
 n:Nat
 pin:ab0
 kg:List (Nat×ak)
 nq:ab2
 aav:Option cO
 aq:abT
 abR:List RN
 hK:List r4
def GK (b:Program) (c:TypeId):Prop:=∃a e d,b.info? c=some a/\a.size=1/\a.zero=some e/\e.cells.size=1/\b.underlying c=some d/\(match d with|.struct _|.array _ _=>true|_=>false)=false
def xy:List fP->List ak->Bool
 |.c d _::a,.dt b _::as=>Nat.beq b d&&xy a as
 |.c _ _::_,_=>false
 |_::a,_::as=>xy a as
 |_,_=>true
def q4:List (Nat×aF)->Nat->List ak->Option aF
 |[],_,_=>none
 |(k,F)::l,f,as=>bif Nat.beq k f&&(xy F.ps as&&(iz 0 F.ps).isNone) then some F else q4 l f as
theorem EJ:∀{e:List (Nat×aF)} {d:Nat} {as:List ak} {c:aF},q4 e d as=some c->∃b,(b,c)∈e
 |[],_,_,_,a=>by cases a
 |(b,G)::e,d,as,c,a=>by
  simp only[q4] at a;cases f:(Nat.beq b d&&(xy G.ps as&&(iz 0 G.ps).isNone)) with
  |true=>rw[f] at a;cases a;exact⟨b,ac⟩
  |false=>
   rw[f] at a;obtain⟨h,g⟩:=EJ a;exact⟨h,by simp[g]⟩
theorem EK:∀{e:List (Nat×aF)} {d:Nat} {as:List ak} {c:aF},q4 e d as=some c->iz 0 c.ps=none
 |[],_,_,_,a=>by cases a
 |(k,G)::e,d,as,c,a=>by
  simp only[q4] at a;cases b:(Nat.beq k d&&(xy G.ps as&&(iz 0 G.ps).isNone)) with
  |true=>
   rw[b] at a;cases a;simp only[bg] at b;exact Option.isNone_iff_eq_none.1 b.2.2
  |false=>
   rw[b] at a;exact EK a
def sG (ic:fG) (a:mr) (b:a.den):aH:=⟨ic.kg++mD a.g b,sF a.h (sH a.g b)⟩
def fM (b:Nat) (c:ab0) (a:Nat):Bool:=Nat.blt a b&&!(dj a c)
def aj (ic:fG) {A:Type} (a:Operand->ak) (g:List (Nat×aB)) (r:Oper) (c:br->Option A):Option A:=
 match r.dst with
 |none=>match r.op with
  |.store d e v=>pZ ic.tt g d (a e) (a v) c
  |.mapUpdate d e o v=>mL ic.tt g d (a e) (a o) (a v) c
  |.insert d e o v=>mL ic.tt g d (a e) (a o) (a v) c
  |.entryStore d e F v=>py ic.tt g d (a e) (a F) (a v) c
  |.call {callee:=.builtin .delete,args:=xs,argTypes:=s}=>match xs.toList,s.toList with
   |[e,o],[d,_]=>pJ ic.tt g d (a e) (a o) c
   |_,_=>none
  |_=>none
 |some b=>
  bif fM ic.n ic.pin b then
  match r.op with
  |.pick y e i=>match a y with
   |.val .bool j=>(match a e,a i with
    |.val k u,.val H v=>match gJ (τ:=H) k v with
     |some v=>c ⟨some (b,.val k (bif j then u else v)),[],[],[]⟩
     |none=>none
    |u,v=>match j with
     |true=>c ⟨some (b,u),[],[],[]⟩
     |false=>c ⟨some (b,v),[],[],[]⟩)
   |_=>none
  |.call {callee:=.value z,args:=xs,argTypes:=_}=>match a z with
   |.dt l m=>
    match q4 ic.Cv l (xs.toList.map a++m) with
    |none=>none
    |some h=>bif Nat.beq h.f l then
     iQ g (p0 (xs.toList.map a++m) h.ps) h.ps (xs.toList.map a++m) λq=>(h.vy q).bind λj=>bif lQ b ⟨[],g⟩ (xs.toList.map a++m) (eV h.ps q j) (hB h.rs (gU h.ps j)) then
      c ⟨some (b,tn b (hB h.rs (gU h.ps j))),eF (xs.toList.map a++m) (eV h.ps q j),uZ (kO (xs.toList.map a++m) (eV h.ps q j)),iy (xs.toList.map a++m) (eV h.ps q j)++hE b (hj (hB h.rs (gU h.ps j))) 0 (hB h.rs (gU h.ps j))⟩ else none
     else none
   |_=>none
  |.call {callee:=.builtin .append,args:=xs,argTypes:=s}=>match xs.toList,s.toList with
   |[e,i],[d,x]=>bif Nat.beq d x then mw ic.tt ic.an g b d (a e) (a i) c else none
   |_,_=>none
  |.call {callee:=.builtin .copy,args:=xs,argTypes:=s}=>match xs.toList,s.toList with
   |[e,i],[d,_]=>pk ic.tt g b d (a e) (a i) c
   |_,_=>none
  |.assign e=>match a e with
   |.val k i=>c ⟨some (b,.val k i),[],[],[]⟩
   |.dt l m=>c ⟨some (b,.dt l m),[],[],[]⟩
   |.addr id E=>c ⟨some (b,.addr id E),[],[],[]⟩
   |.cv v=>match al ic.an b with
    |none=>c ⟨some (b,.cv v),[],[],[]⟩
    |some k=>match k.pure&&nj k v with
     |true=>(hu k v.cells.toList).bind λi=>c ⟨some (b,.val k i),[],[],[]⟩
     |false=>(n0 ic.an g b (.cv v)).bind c
   |v=>(n0 ic.an g b v).bind c
  |.build d w=>qv ic.tt ic.an g a b d w.toList c
  |.mapEntry d e o=>pK ic.tt g b d (a e) (a o) c
  |.box d e=>se ic.tt ic.an g b d (a e) c
  |.buildSlice d C w=>qx ic.tt ic.an g a b d C w.toList c
  |_=>match je ic.tt ic.an g a b r.op with
   |.du t=>c ⟨some (b,t),[],[],[]⟩
   |.opt _ i l=>i.bind λp=>c ⟨some (b,l p),[],[],[]⟩
   |.new _ i G B=>bif Nat.beq B b then i.bind λp=>c ⟨some (b,.ref b []),[],[],[(b,G p)]⟩ else none
   |.no=>match fo ic.tt ic.an g a b r.op with
    |.du t D=>c ⟨some (b,t),[],[],D⟩
    |.part _ I l=>(pick I).bind λp=>c ⟨some (b,(l p).1),[],[],(l p).2⟩
    |.bad=>none
  else none
def lR (b:List (Nat×aB)) (a:ab0):Bool:=a.all λid=>match al b id with|some c=>Ef c.1|none=>false
def iP (ic:fG) {A:Type} (e:Operand->ak) (b:List (Nat×aB)) (c:Oper) (f:br->Option A):Option A:=
 match kJ ic.nq (sO c) e (p2 c.op) with
 |[]=>aj ic e b c f
 |F=>bif lR b F then aj ic (λh=>hg b F (e h)) (del F b) c λa=>bif a.keep.all (λg=>!dj g.1 F) then f ⟨a.d,F++a.S,a.keep,a.put⟩ else none else none
def mG:fP->Bool
 |.m _=>true
 |_=>false
def Gf (ic:fG) (a:Operand->ak) (e:Oper):Option (Nat×List aV):=match e.op with
 |.call {callee:=.value z,args:=xs,argTypes:=_}=>match a z with
  |.dt d b=>match q4 ic.Cv d (xs.toList.map a++b) with
   |some c=>rA (xs.toList.map a++b) (c.ps.map mG)
   |none=>none
  |_=>none
 |_=>none
def DQ (ic:fG) {A:Type} (id:Nat) (k:aV) (j:List aV) (c:Operand->ak) (l:List (Nat×aB)) (p:Oper) (r:br->Option A):Option A:=
 match p.dst with
 |none=>none
 |some g=>
  bif fM ic.n ic.pin g then
  match p.op with
  |.call {callee:=.value m,args:=xs,argTypes:=_}=>match c m with
   |.dt o d=>
    match q4 ic.Cv o (xs.toList.map c++d) with
    |none=>none
    |some a=>
     bif Nat.beq a.f o then
     match al l id with
     |none=>none
     |some h=>match dO h.1 (k::j) with
      |none=>none
      |some i=>match gA h.1 h.2 (k::j) i with
       |none=>none
       |some q=>
        match ee ((id,⟨i,q⟩)::del [id] l) (p0 (kV id (xs.toList.map c++d) (a.ps.map mG)) a.ps) a.ps (kV id (xs.toList.map c++d) (a.ps.map mG)) with
        |none=>none
        |some e=>(a.vy e).bind λb=>bif lQ g ⟨[],(id,⟨i,q⟩)::del [id] l⟩ (kV id (xs.toList.map c++d) (a.ps.map mG)) (eV a.ps e b) (hB a.rs (gU a.ps b))&&(dj id (eF (kV id (xs.toList.map c++d) (a.ps.map mG)) (eV a.ps e b))&&dj id (kO (kV id (xs.toList.map c++d) (a.ps.map mG)) (eV a.ps e b))) then
         match al (iy (kV id (xs.toList.map c++d) (a.ps.map mG)) (eV a.ps e b)++hE g (hj (hB a.rs (gU a.ps b))) 0 (hB a.rs (gU a.ps b))) id with
         |none=>none
         |some s=>match gJ i s.2 with
          |none=>none
          |some t=>(kU h.1 h.2 (k::j) i t).bind λm=>
           r ⟨some (g,tn g (hB a.rs (gU a.ps b))),eF (kV id (xs.toList.map c++d) (a.ps.map mG)) (eV a.ps e b),(id,k::j)::uZ (kO (kV id (xs.toList.map c++d) (a.ps.map mG)) (eV a.ps e b)),(id,⟨h.1,m⟩)::(iy (kV id (xs.toList.map c++d) (a.ps.map mG)) (eV a.ps e b)++hE g (hj (hB a.rs (gU a.ps b))) 0 (hB a.rs (gU a.ps b)))⟩
         else none
     else none
   |_=>none
  |_=>none
  else none
def E8 (ic:fG) (b:Operand->ak) (c:Oper):Option cZ:=match c.dst,c.op with
 |some a,.binOp .eql d e g _=>match e7 ic.tt d,b e,b g with
  |some _,.val (.a6 _ h) f,.cv (.slice none 0 0)=>bif fM ic.n ic.pin a then some (a,List.length (α:=h.den) f) else none
  |_,_,_=>none
 |_,_=>none
def JC (tt:List (TypeId×ah)) (a:TypeId):Bool:=match al tt a with|some (.ptr _ _)=>true|_=>false
def E7 (b:List (Nat×aB)):ak->Option Bool
 |.val (.ptr _ a) d=>some (Option.isNone (α:=a.den) d)
 |.ref id c=>match al b id with
  |some a=>match dO a.1 c with
   |some (.optr _)=>some false
   |_=>none
  |none=>none
 |_=>none
def FK (ic:fG) (c:Operand->ak) (f:List (Nat×aB)) (d:Oper):Option (Nat×Bool):=match d.dst,d.op with
 |some a,.binOp g e h i _=>match JC ic.tt e,E7 f (c h),c i with
  |true,some b,.cv (.pointer none)=>bif fM ic.n ic.pin a then(match g with
   |.eql=>some (a,b)
   |.neq=>some (a,!b)
   |_=>none) else none
  |_,_,_=>none
 |_,_=>none
def Gg (ic:fG) (f:Operand->ak) (d:Oper):Option (Nat×r4×Int):=match d.dst,d.op with
 |some c,.indexAddr e (.global h) g=>match ic.hK.find? (λa=>Nat.beq a.b h&&Nat.beq a.T e),f g with
  |some a,.val (.int _) i=>bif fM ic.n ic.pin c then some (c,a,i) else none
  |_,_=>none
 |_,_=>none
def i1 (ic:fG) {A:Type} (a:aH) (d:Oper) (b:aH->Option A):Option A:=
 match Gg ic (aO a.g) d with
 |some (c,i,f)=>(aA i.xs f).bind λn=>b ⟨(c,.val (.ptr .bx (.int i.k)) (some n))::a.g,a.h⟩
 |none=>match FK ic (aO a.g) a.h d with
 |some (c,j)=>b ⟨(c,.val .bool j)::a.g,a.h⟩
 |none=>match E8 ic (aO a.g) d with
 |some (c,f)=>mM f (b ⟨(c,.val .bool true)::a.g,a.h⟩) (b ⟨(c,.val .bool false)::a.g,a.h⟩)
 |none=>match Gf ic (aO a.g) d with
  |some (id,m::l)=>DQ ic id m l (aO a.g) a.h d λe=>b (e.app a)
  |_=>iP ic (aO a.g) a.h d λe=>b (e.app a)
def jC (ic:fG) {A:Type} (c:Array Oper):ab0->aH->(aH->Option A)->Option A
 |[],a,b=>b a
 |i::e,a,b=>match c[i]? with
  |none=>none
  |some f=>match f.guard with
   |none=>i1 ic a f λk=>jC ic c e k b
   |some (
    l,rG)=>match(c[l]?).bind (·.dst),f.dst with
    |some j,some d=>match gt a.g j with
     |.val .bool m=>bif fM ic.n ic.pin d then
      (match m==rG with
      |true=>i1 ic ⟨(j,.val .bool rG)::a.g,a.h⟩ f λk=>jC ic c e k b
      |false=>jC ic c e ⟨(d,.cv undef)::(j,.val .bool (!rG))::a.g,a.h⟩ b) else none
     |.cv (.tuple _)=>bif fM ic.n ic.pin d then jC ic c e ⟨(d,.cv undef)::a.g,a.h⟩ b else none
     |_=>none
    |_,_=>none
section
variable {E:dY} {C:dA} {ic:fG} {A:Type}
def fG.ae (E:dY) (C:dA) (ic:fG):Prop:=ic.tt=E.tt/\ic.n=C.n/\ic.pin=C.pin/\((∀b∈ic.Cv,aD E b.2)/\r2 C ic.aav/\(∀a∈ic.aq,GK E.P a)/\jL E C.I0 C.w0/\ic.hK=E.glob)/\nN C ic.kg
theorem fM.ok (c:ic.ae E C) {d:Nat} (b:fM ic.n ic.pin d=true):C.ok d:=by obtain⟨_,a,e,_,_⟩:=c;rw[a,e] at b;simp only[fM,bg] at b;exact⟨eT b.1,λf=>by have a:=b.2;rw[ep.2 f] at a;cases a⟩
theorem ff.same {d:abS} (k:∀b,gt X.g b=gt i.g b) (c:X.h=i.h) (j:ff C i d v):ff C X d v:=by obtain⟨e,l,f,a⟩:=j;exact⟨e,l,f,{a with tree:=by rw[c];exact a.tree,dis:=by rw[c];exact a.dis,tmp:=λb=>by rw[c,k];exact a.tmp b}⟩
theorem g1.same {f:Array Oper} {e:ab0} {a b:aH} {c:aH->Prop} (l:∀d,gt b.g d=gt a.g d) (m:b.h=a.h) (j:g1 E C f e b c):g1 E C f e a c:=
 λi n k=>j i n (k.same l m)
theorem br.Ht {a:List (Nat×List aV)}:(br.mk (some (b,d)) f a e).app i=⟨(b,d)::kill f a i.g,e++del f i.h⟩:=by show aH.mk ((b,d)::lZ f a i.g) (e++px f i.h)=_;rw[oj,sC]
theorem IA (O:ic.ae E C) {t:Oper} {st:aH} {v:br->Option A} {w:A} (a:aj ic (aO st.g) st.h t v=some w):dz E C t st (λx=>∃b,v b=some w/\x=b.app st):=by
 obtain⟨k,d5,d6,cv,_⟩:=id O;unfold aj at a;split at a
 ·rename_i e;split at a
  ·rename_i j d L c;rw[k] at a;exact aaJ c e (aaI a (λb s=>⟨b,s,rfl⟩))
  ·rename_i j d Q L c;rw[k] at a;exact Kt (.inl c) e a
  ·rename_i j d Q L c;rw[k] at a;exact Kt (.inr c) e a
  ·rename_i j d x L c;rw[k] at a;exact TQ c e a
  ·rename_i p y c;split at a
   case h_2=>cases a
   rename_i d Q j a3 aj ab;rw[k] at a;obtain rfl:p=#[d,Q]:=(by cases p;simp_all);obtain rfl:y=#[j,a3]:=(by cases y;simp_all);exact VX c e a
  ·cases a
 rename_i F e;cases Y:fM ic.n ic.pin F with
 |false=>rw[Y] at a;cases a
 |true=>
 rw[Y] at a;have i:=fM.ok O Y;simp only[cond_true] at a;split at a
 ·rename_i d4 d u c;split at a
  case h_2=>cases a
  rename_i q I;have V:∀D,(q=true->D=aO st.g d)->(q=false->D=aO st.g u)->v ⟨some (F,D),[],[],[]⟩=some w->dz E C t st (λx=>∃b,v b=some w/\x=b.app st):=by
   clear a;intro D bl bs z;refine dz.eval (an:=ic.an) e i ?_;rw[c];simp only[fo,B5,I];refine⟨q,rfl,_,z,?_⟩;cases q
   ·rw[bs rfl];rfl
   ·rw[bl rfl];rfl
  split at a
  ·rename_i d3 el eq L c1 Z;split at a
   case h_2=>cases a
   rename_i d2 c2;cases jb c2;refine V _ ?_ ?_ a
   ·intro b;rw[c1,b];rfl
   ·intro b;rw[Z,b];rfl
  ·cases q
   ·exact V _ (λb=>by cases b) (λ_=>rfl) a
   ·exact V _ (λ_=>rfl) (λb=>by cases b) a
 ·rename_i em p _ c;split at a
  case h_2=>cases a
  rename_i N ap ds;split at a
  ·cases a
  rename_i M ad;cases o:Nat.beq M.f N with
  |false=>rw[o] at a;cases a
  |true=>
  rw[o] at a;obtain rfl:=es o;simp only[cond_true,lX] at a;obtain⟨l,bB,a⟩:=c9.1 a;obtain⟨q,cs,a⟩:=c9.1 a;cases I:lQ F ⟨[],st.h⟩ (p.toList.map (aO st.g)++ap) (eV M.ps l q) (hB M.rs (gU M.ps q)) with
  |false=>rw[I] at a;cases a
  |true=>
  rw[I] at a;obtain⟨d7,co⟩:=EJ ad;obtain⟨ce,ci⟩:=cv.1 _ co;refine dz.call c ds e i ce (ci l q cs) (by rw[yl];exact EK ad) O.2.2.2.2.1 O.2.2.2.1.2.2.2.1 ?_ I ⟨_,a,?_⟩
  ·rw[Gj];exact ob bB
  ·rw[br.Ht];rfl
 ·rename_i p y c;split at a
  case h_2=>cases a
  rename_i d u j R aj ab;cases o:Nat.beq j R with
  |false=>rw[o] at a;cases a
  |true=>
  rw[o] at a;obtain rfl:=es o;have S:p=#[d,u]:=(by cases p;simp_all);have T:y=#[j,j]:=(by cases y;simp_all);subst S;subst T;rw[k] at a;exact R3 c e i a
 ·rename_i p y c;split at a
  case h_2=>cases a
  rename_i d u j R aj ab;have S:p=#[d,u]:=(by cases p;simp_all);have T:y=#[j,R]:=(by cases y;simp_all);subst S;subst T;rw[k] at a;exact dz.copy c e i a
 ·rename_i d c;have U:Eu (aO st.g d)=true->v ⟨some (F,aO st.g d),[],[],[]⟩=some w->dz E C t st (λx=>∃b,v b=some w/\x=b.app st):=λZ z=>by
   refine dz.eval (an:=ic.an) e i ?_;rw[c];simp only[fo,Z,cond_true];exact⟨_,z,rfl⟩
  have as:(n0 ic.an st.h F (aO st.g d)).bind v=some w->dz E C t st (λx=>∃b,v b=some w/\x=b.app st):=λz=>(by obtain⟨b,s,z⟩:=c9.1 z;exact dz.Sb c e i (Sc s ⟨b,z,rfl⟩));split at a
  ·rename_i d3 u m;exact U (by rw[m];rfl) (by rw[m];exact a)
  ·rename_i N ap m;exact U (by rw[m];rfl) (by rw[m];exact a)
  ·rename_i id ed m;rintro l B ⟨a0,d1,bd,H⟩ next a4 W
   have G:=H.aO d;have X:(execOp l.eval t).run E.P B=.ok (.value (l.eval d)) B:=(by simp[execOp,c]);unfold Oper.wp;rw[X];show next (l.put t.dst (l.eval d)) B
   rw[e];refine W _ _ _ ⟨_,a,rfl⟩ rfl ⟨_,_,_,H.put i ?_⟩;rw[m] at G;exact G
  ·rename_i L m;split at a
   ·exact U (by rw[m];rfl) (by rw[m];exact a)
   ·split at a
    ·rename_i am;simp only[bg] at am;obtain⟨u,dl,a⟩:=c9.1 a;rintro l B ⟨a0,d1,bd,H⟩ next a4 W
     have G:=H.aO d;have X:(execOp l.eval t).run E.P B=.ok (.value (l.eval d)) B:=(by simp[execOp,c]);unfold Oper.wp;rw[X];show next (l.put t.dst (l.eval d)) B
     rw[e];refine W _ _ _ ⟨_,a,rfl⟩ rfl ⟨_,_,_,H.put i ?_⟩;rw[m] at G;generalize l.eval d=d2 at G;cases G;rw[<-nj.ok am.2];exact .val (n6 dl)
    ·exact as (by rw[m];exact a)
  ·exact as a
 ·rename_i j d0 c;rw[k] at a;exact Sp c e i a (λb s=>⟨b,s,rfl⟩)
 ·rename_i j d Q c;rw[k] at a;exact V6 c e i a
 ·rename_i j d c;rw[k] at a;exact Ss c e i a (λb s=>⟨b,s,rfl⟩)
 ·rename_i j d8 d0 c;rw[k] at a;exact Sw c e i a (λb s=>⟨b,s,rfl⟩)
 ·split at a
  ·rename_i D r;refine dz.eval (an:=ic.an) e i ?_;rw[<-k];exact DW (by rw[r];exact⟨_,a,rfl⟩)
  ·rename_i av u N r;refine dz.eval (an:=ic.an) e i ?_;rw[<-k];obtain⟨K,J,a⟩:=c9.1 a;exact DW (by rw[r];exact⟨K,J,_,a,rfl⟩)
  ·rename_i av u ek b r;cases o:Nat.beq b F with
   |false=>rw[o] at a;cases a
   |true=>
   rw[o] at a;obtain rfl:=es o;obtain⟨K,J,a⟩:=c9.1 a;refine dz.eval (an:=ic.an) e i ?_;rw[<-k];exact DW (by rw[r];exact⟨K,J,_,a,rfl⟩)
  ·refine dz.eval (an:=ic.an) e i ?_;rw[k] at a;split at a
   ·rename_i D d9 r;rw[r];exact⟨_,a,rfl⟩
   ·rename_i av ex N r;rw[r];obtain⟨K,J,a⟩:=c9.1 a;exact⟨K,Zd J,_,a,rfl⟩
   ·cases a
theorem dz.mono {P:aH->Prop} (e:dz E C h i P) (j:∀a,P a->u a):dz E C h i u:=
 λc l f next b g=>e c l f next b (λa d m k=>g a d m (j a k))
theorem ZU {keep:List (Nat×List aV)} {a:ak} (c:j0 keep a=true):∃id,a.ids=[id]/\∃b∈keep,b.1=id:=by
 have e:∀(id:Nat) (g:Nat×List aV->Bool),(keep.any λb=>Nat.beq b.1 id&&g b)=true->∃b∈keep,b.1=id:=(by intro id g j;obtain⟨b,f,h⟩:=m5.1 j;simp only[bg] at h;exact⟨b,f,es h.1⟩);cases a with
 |ref id d=>
  cases d with
  |nil=>
   obtain⟨b,f,i⟩:=m5.1 (show(keep.any λb=>Nat.beq b.1 id)=true from c);exact⟨id,rfl,b,f,es i⟩
  |cons m d=>exact⟨id,rfl,e id _ c⟩
 |addr id d=>exact⟨id,rfl,e id _ c⟩
 |view id d l k=>exact⟨id,rfl,e id _ c⟩
 |_=>cases c
theorem CD {F S:ab0} {a:ak}:a.dR (F++S)=(a.dR F||a.dR S):=by
 simp only[ak.dR];rw[me];simp only[m5,fy];constructor
 ·rintro⟨c,b,d⟩;rcases eH.1 (ep.1 d) with e|e
  ·exact .inl ⟨c,b,ep.2 e⟩
  ·exact .inr ⟨c,b,ep.2 e⟩
 ·rintro(⟨c,b,d⟩|⟨c,b,d⟩)
  ·exact⟨c,b,ep.2 (m7 _ (ep.1 d))⟩
  ·exact⟨c,b,ep.2 (k4 _ (ep.1 d))⟩
theorem H8:(ak.dt b L).dR f=L.any λa=>a.dR f:=by
 show(ak.mF L).any _=_
 induction L with
 |nil=>rfl
 |cons a L c=>simp only[ak.mF,List.any_append,List.any_cons,c,ak.dR]
theorem Ma {e:ab0} (h:d.dR e=false):h1 (e++f) g d=h1 f g d:=by
 cases d with
 |dt p q=>
  rw[H8,tO] at h;rw[me];simp only[h1,eM];constructor<;>intro b j k<;>have:=b j k<;>rw[CD,Bool.eq_false_iff.2 (h j k)] at*<;>simpa using this
 |app id r t s i=>
  have n:=Gu h;have l:∀a∈i,dj a (e++f)=dj a f:=λa c=>(by have o:a∉e:=n a (e0 _ c);rw[me,ep,ep,eH];exact⟨λb=>b.resolve_left o,.inr⟩);have m:(i.all λa=>!(dj a (e++f)))=i.all λa=>!(dj a f):=(by rw[me];simp only[eM];exact⟨λb a c=>by rw[<-l a c];exact b a c,λb a c=>by rw[l a c];exact b a c⟩);simp only[h1,m]
 |_=>rfl
theorem Vd {F S:ab0} {keep:List (Nat×List aV)} {a:ak}:dB (F++S) keep a=.dead\/(a.dR F=false/\dB (F++S) keep a=dB S keep a)\/(h1 (F++S) keep a=true/\dB (F++S) keep a=a):=by
 have d:=CD (F:=F) (S:=S) (a:=a);have c:a.dR F=false->h1 (F++S) keep a=h1 S keep a:=Ma;unfold dB;rw[d];cases b:a.dR F with
 |false=>right;left;rw[c b];simp
 |true=>
  cases h1 (F++S) keep a<;>simp
theorem lR.ok (b:lR e f=true):∀id∈f,∃a,al e id=some a/\Ef a.1=true:=by
 intro id c;have:=eM.1 b id c;split at this
 ·rename_i a d;exact⟨a,d,this⟩
 ·cases this
theorem IC (an:ic.ae E C) {Q:Oper} {Z:br->Option A} {av:A} (e:iP ic (aO i.g) i.h Q Z=some av):dz E C Q i (λa0=>∃b,Z b=some av/\a0=b.app i):=by
 unfold iP at e;split at e
 ·exact IA an e
 generalize kJ ic.nq (sO Q) (aO i.g) (p2 Q.op)=c at e;cases W:lR i.h c with
 |false=>rw[W] at e;cases e
 |true=>
 rw[W] at e;simp only[cond_true] at e;rw[<-UF c i] at e;have n:=IA (st:=qW c i) an e;intro j c2 T next a3 cs
 obtain⟨d0,d3,d1,T⟩:=T;refine n j c2 (T.freeze (lR.ok W)) next a3 (λd4 a4 dl c1 bB bl=>?_)
 obtain⟨b,O,rfl⟩:=c1;cases G:b.keep.all (λl=>!dj l.1 c) with
 |false=>rw[G] at O;cases O
 |true=>
 rw[G] at O;have G:∀l∈b.keep,l.1∉c:=λl q y=>(by have:=eM.1 G l q;rw[ep.2 y] at this;cases this);refine cs _ a4 dl ⟨_,O,rfl⟩ bB (bl.JZ ?_ ?_)
 ·intro D;have u:∀j:ak,dB (c++b.S) b.keep j=.dead\/dB (c++b.S) b.keep j=dB b.S b.keep (fx i.h c j):=by
   intro j;rcases Vd (F:=c) (S:=b.S) (keep:=b.keep) (a:=j) with e|⟨n,o⟩|⟨n,o⟩
   ·exact .inl e
   ·right;rw[o];rcases lh i.h c j with⟨id,r,rfl,Y,_⟩|⟨_,k⟩|⟨k,_⟩
    ·simp[ak.dR,ak.ids,ep.2 Y] at n
    ·rw[n] at k;cases k
    ·rw[k]
   ·have X:∀(id:Nat),(∃m∈b.keep,m.1=id)->dj id c=false:=λid ⟨m,t,b⟩=>by
     cases y:dj id c
     ·rfl
     ·exact absurd (b▸ep.1 y) (G m t)
    have M:h1 (c++b.S) b.keep j=h1 b.S b.keep j->∀(id:Nat),j.ids=[id]->(∃m∈b.keep,m.1=id)->dB (c++b.S) b.keep j=.dead\/dB (c++b.S) b.keep j=dB b.S b.keep (fx i.h c j):=by
     intro bs id co t;have z:j.dR c=false:=(by simp[ak.dR,co,X id t]);right;rcases lh i.h c j with⟨l,r,rfl,Y,_⟩|⟨_,k⟩|⟨k,_⟩
     ·simp[ak.dR,ak.ids,ep.2 Y] at z
     ·rw[z] at k;cases k
     ·rw[k,o];unfold dB;rw[show h1 b.S b.keep j=true by rw[<-bs];exact n];simp
    have N:∀(id:Nat) (ab:Nat×List aV->Bool),(b.keep.any λm=>Nat.beq m.1 id&&ab m)=true->∃m∈b.keep,m.1=id:=(by intro id ab ce;obtain⟨m,t,o⟩:=m5.1 ce;simp only[bg] at o;exact⟨m,t,es o.1⟩);cases j with
    |ref id f=>
     cases f with
     |nil=>
      obtain⟨m,t,s⟩:=m5.1 (show(b.keep.any λm=>Nat.beq m.1 id)=true from n);exact M rfl id rfl ⟨m,t,es s⟩
     |cons a0 f=>exact M rfl id rfl (N id _ n)
    |addr id f=>exact M rfl id rfl (N id _ n)
    |view id f H q=>exact M rfl id rfl (N id _ n)
    |dt w p=>
     have am:=eM.1 n;have z:(ak.dt w p).dR c=false:=(by rw[H8,tO];intro K U V;have s:=am K U;rw[CD,V] at s;obtain⟨id,aj,t⟩:=ZU (keep:=b.keep) (a:=K) (by simpa using s);rw[ak.dR,aj] at V;simp[X id t] at V);right;rcases lh i.h c (.dt w p) with⟨l,r,ar,_⟩|⟨_,k⟩|⟨k,_⟩
     ·cases ar
     ·rw[z] at k;cases k
     ·rw[k,o];unfold dB;have bd:h1 b.S b.keep (.dt w p)=true:=eM.2 λK U=>by
       have s:=am K U;rw[CD,Bool.not_or,fy,bg] at s;rw[fy];exact s.imp (λe=>e.2) (λe=>e)
      rw[bd];simp
    |app id f x B v=>
     have R:((v.all λl=>!(dj l (c++b.S)))&&b.keep.any λm=>Nat.beq m.1 id&&jx m.2 f)=true:=n;rw[bg] at R;have ci:=X id (N id _ R.2);have z:(ak.app id f x B v).dR c=false:=by
      unfold ak.dR;rw[tO];intro l q y;rcases dh.1 (show l∈id::v from q) with rfl|q
      ·rw[ci] at y;cases y
      ·have:=eM.1 R.1 l q;rw[ep.2 (m7 _ (ep.1 y))] at this;cases this
     right;rcases lh i.h c (.app id f x B v) with⟨l,r,ar,_⟩|⟨_,k⟩|⟨k,_⟩
     ·cases ar
     ·rw[z] at k;cases k
     ·rw[k,o];unfold dB;rw[<-Ma z,n];simp
    |_=>cases n
  have ap:∀j:ak,vG (ej (c++b.S) b.keep j) (ej b.S b.keep (hg i.h c j)):=by
   intro j;cases j with
   |dC p=>
    refine .inr (.inr ⟨_,_,rfl,rfl,ac,λl m d6 n o=>?_⟩);rw[eN] at n o;rw[eN] at o;obtain⟨ds,s,rfl⟩:=eb.1 n;rw[s] at o;simp only[fe,bH] at o;subst o;exact u ds
   |ref id f=>
    have k:=u (.ref id f);have aj:ej b.S b.keep (hg i.h c (.ref id f))=dB b.S b.keep (fx i.h c (.ref id f)):=by show ej b.S b.keep (fx i.h c (.ref id f))=_;rcases lh i.h c (.ref id f) with⟨l,r,_,_,_,e⟩|⟨e,_⟩|⟨e,_⟩<;>rw[e]<;>first|rfl|exact sP _ _ _
    rw[aj];exact k.imp (λe=>e) .inl
   |dead=>exact(u .dead).imp (λe=>e) .inl
   |val x m=>exact .inr (.inl (by
    simp[dB,fx,hg,ej,ak.dR,ak.ids]))
   |cv d5=>exact .inr (.inl (by
    simp[dB,fx,hg,ej,ak.dR,ak.ids]))
   |addr id f=>
    have aj:ej b.S b.keep (hg i.h c (.addr id f))=dB b.S b.keep (fx i.h c (.addr id f)):=by show ej b.S b.keep (fx i.h c (.addr id f))=_;rcases lh i.h c (.addr id f) with⟨l,r,_,_,_,e⟩|⟨e,_⟩|⟨e,_⟩<;>rw[e]<;>first|rfl|exact sP _ _ _
    rw[aj];exact(u _).imp (λe=>e) .inl
   |view id f H q=>
    have aj:ej b.S b.keep (hg i.h c (.view id f H q))=dB b.S b.keep (fx i.h c (.view id f H q)):=by show ej b.S b.keep (fx i.h c (.view id f H q))=_;rcases lh i.h c (.view id f H q) with⟨l,r,_,_,_,e⟩|⟨e,_⟩|⟨e,_⟩<;>rw[e]<;>first|rfl|exact sP _ _ _
    rw[aj];exact(u _).imp (λe=>e) .inl
   |jd id f P=>
    have aj:ej b.S b.keep (hg i.h c (.jd id f P))=dB b.S b.keep (fx i.h c (.jd id f P)):=by show ej b.S b.keep (fx i.h c (.jd id f P))=_;rcases lh i.h c (.jd id f P) with⟨l,r,_,_,_,e⟩|⟨e,_⟩|⟨e,_⟩<;>rw[e]<;>first|rfl|exact sP _ _ _
    rw[aj];exact(u _).imp (λe=>e) .inl
   |app id f x B v=>
    have aj:ej b.S b.keep (hg i.h c (.app id f x B v))=dB b.S b.keep (fx i.h c (.app id f x B v)):=by show ej b.S b.keep (fx i.h c (.app id f x B v))=_;rcases lh i.h c (.app id f x B v) with⟨l,r,_,_,_,e⟩|⟨e,_⟩|⟨e,_⟩<;>rw[e]<;>first|rfl|exact sP _ _ _
    rw[aj];exact(u _).imp (λe=>e) .inl
   |agg p=>
    have aj:ej b.S b.keep (hg i.h c (.agg p))=dB b.S b.keep (fx i.h c (.agg p)):=by show ej b.S b.keep (fx i.h c (.agg p))=_;rcases lh i.h c (.agg p) with⟨l,r,_,_,_,e⟩|⟨e,_⟩|⟨e,_⟩<;>rw[e]<;>first|rfl|exact sP _ _ _
    rw[aj];exact(u _).imp (λe=>e) .inl
   |dt w p=>
    have aj:ej b.S b.keep (hg i.h c (.dt w p))=dB b.S b.keep (fx i.h c (.dt w p)):=by show ej b.S b.keep (fx i.h c (.dt w p))=_;rcases lh i.h c (.dt w p) with⟨l,r,_,_,_,e⟩|⟨e,_⟩|⟨e,_⟩<;>rw[e]<;>first|rfl|exact sP _ _ _
    rw[aj];exact(u _).imp (λe=>e) .inl
  show vG (gt (br.app ⟨b.d,c++b.S,b.keep,b.put⟩ i).g D) (gt (b.app (qW c i)).g D);obtain⟨L,J,I,d2⟩:=b;cases L with
  |none=>
   show vG (gt (lZ (c++J) I i.g) D) (gt (lZ J I (qW c i).g) D);rw[oj,oj,ns,ns,Bf];exact ap _
  |some k=>
   obtain⟨L,ad⟩:=k;show vG (gt ((L,ad)::lZ (c++J) I i.g) D) (gt ((L,ad)::lZ J I (qW c i).g) D);rw[hz,hz];split
   ·exact .inr (.inl rfl)
   ·rw[oj,oj,ns,ns,Bf];exact ap _
 ·intro id;show al (b.put++px (c++b.S) i.h) id=al (b.put++px b.S (del c i.h)) id;rw[sC,sC,iR,iR,j2,j2,j2];by_cases n:id∈c<;>by_cases o:id∈b.S<;>simp[n,o]
theorem Tz (l:ic.ae E C) {v:Oper} {id:Nat} (m:Gf ic (aO i.g) v=some (id,T::j)) {w:br->Option A} {F:A} (a:DQ ic id T j (aO i.g) i.h v w=some F):dz E C v i (λT=>∃x,w x=some F/\T=x.app i):=by
 have U:=λc=>fM.ok l (d:=c);have P:=l.2.2.2.2.1;have Q:=l.2.2.2.1.2.2.2.1;obtain⟨a0,_,_,Y,_⟩:=l;unfold DQ at a;split at a
 ·cases a
 rename_i c L;cases u:fM ic.n ic.pin c with
 |false=>rw[u] at a;cases a
 |true=>
 rw[u] at a;have M:=U c u;simp only[cond_true] at a;split at a
 case h_2=>cases a
 rename_i av G bs y;split at a
 case h_2=>cases a
 rename_i I D B;split at a
 ·cases a
 rename_i b r;cases s:Nat.beq b.f I with
 |false=>rw[s] at a;cases a
 |true=>
 rw[s] at a;obtain rfl:=es s;simp only[cond_true] at a;split at a
 ·cases a
 rename_i bd W;split at a
 ·cases a
 rename_i ap a3;split at a
 ·cases a
 rename_i am Z;split at a
 ·cases a
 rename_i k J;obtain⟨e,S,a⟩:=c9.1 a;have V:rA (G.toList.map (aO i.g)++D) (b.ps.map mG)=some (id,T::j):=(by unfold Gf at m;rw[y] at m;simp only[B,r] at m;exact m);generalize K:kV id (G.toList.map (aO i.g)++D) (b.ps.map mG)=o at*;cases t:lQ c ⟨[],(id,⟨ap,am⟩)::del [id] i.h⟩ o (eV b.ps k e) (hB b.rs (gU b.ps e)) with
 |false=>rw[t] at a;cases a
 |true=>
 rw[t] at a;cases p:dj id (eF o (eV b.ps k e)) with
 |false=>rw[p] at a;cases a
 |true=>
 rw[p] at a;cases q:dj id (kO o (eV b.ps k e)) with
 |false=>rw[q] at a;cases a
 |true=>
 rw[q] at a;simp only[Bool.and_self,cond_true] at a;split at a
 ·cases a
 rename_i bl X;split at a
 ·cases a
 rename_i H ab;obtain⟨an,ad,a⟩:=c9.1 a;obtain⟨a4,R⟩:=EJ r;obtain⟨N,O⟩:=Y.1 _ R;refine dz.sub y B L M N (O k e S) (by rw[yl];exact EK r) P Q W (hh Z) V K.symm ?_ t (ep.1 p) (ep.1 q) (y':=H) (z:=an) ?_ (lw ad) ⟨_,a,?_⟩
 ·rw[Gj];exact ob J
 ·rw[X];exact congrArg some (jb ab)
 ·rw[br.Ht]
theorem aaa (b:World) (e:Nat) (a:Option Addr) (g d:Nat) (f:s.underlying c=some (.slice q)):(Op.equalIn (e+1) c (.slice a g d) (.slice none 0 0)).run s b=.ok a.isNone b:=by cases a<;>simp[Op.equalIn,run_underlying f]
theorem Z8 (b:World) (a:Option Addr) (e d:Nat) (f:s.underlying c=some (.slice q)):(binOp .eql c (.slice a e d) (.slice none 0 0)).run s b=.ok (.bool a.isNone) b:=by simp only[binOp];simp[Op.equal,Op.maxDepth,aaa b 9999 a e d f]
theorem Wv (u:ic.ae E C) {z:Oper} (a:E8 ic (aO i.g) z=some (b,l)):dz E C z i (λX=>∃c:Bool,X=⟨(b,.val .bool c)::i.g,i.h⟩/\(c=true->l=0)):=by
 unfold E8 at a;split at a
 case h_2=>cases a
 rename_i G D j k a3 L R;split at a
 case h_2=>cases a
 rename_i a0 ap B A t I J;cases o:fM ic.n ic.pin G with
 |false=>rw[o] at a;cases a
 |true=>
 rw[o] at a;simp only[cond_true,bH,fv] at a;obtain⟨rfl,rfl⟩:=a;rw[u.1] at t;obtain⟨_,ab,_,T,_⟩:=e7.ok t;rintro e f ⟨Z,av,am,m⟩ next ad O
 have p:=m.aO j;have q:=m.aO k;rw[I] at p;rw[J] at q;obtain⟨d,w⟩:∃d,d=e.eval j:=⟨_,rfl⟩;obtain⟨fa,x⟩:∃d,d=e.eval k:=⟨_,rfl⟩;rw[<-w] at p;rw[<-x] at q;cases p with|val W=>cases q with|cv _=>
 obtain⟨_,c,s,rfl,an,K,_⟩:=W;have U:e.eval j=.slice c (List.length (α:=B.den) A) s:=w.symm;have V:e.eval k=.slice none 0 0:=x.symm;have N:∀f,(eqGuard .eql D j k (.slice c (List.length (α:=B.den) A) s) (.slice none 0 0)).run E.P f=.ok () f:=λf=>(by unfold eqGuard;simp);refine Yields.wp (Q:=λr y=>r=.val .bool c.isNone/\y=[]) m (.pure (v:=.bool _) (by simp only[execOp,R,U,V,Sem.run_bind,N,Result.andThen_ok,Z8 _ _ _ _ T];rfl) (.bool _) ⟨rfl,rfl⟩) L (fM.ok u o) ?_;rintro r y F Y ⟨rfl,rfl⟩ M S;refine O _ F Y ⟨c.isNone,rfl,λH=>?_⟩ M S;cases c with
 |none=>have:=K rfl;omega
 |some _=>cases H
theorem aaW {e:IntKind} (g:E.P.underlying q=some (.array W c)) (f:dM E.P (.int e) c) {a:Act} (j:h.op=.indexAddr q (.global l) m) {o:IntKind} (i:a.eval m=.int o b) (r:b<W):(execOp a.eval h).run E.P v=.ok (.value (.pointer (some ⟨l,0+b*1,none⟩))) v:=by have d:=f.sizeOf v;have n:a.eval (.global l)=.pointer (some ⟨l,0,none⟩):=rfl;have:(0:Int)<=(b:Int)/\(b:Int)<(W:Int):=⟨U,U⟩;have k:(ah.int e).size=1:=rfl;rw[k] at d;simp[execOp,j,n,i,Instr.indexAt,Instr.sureAddr,asIntOf,run_underlying g,this,d,Addr.add_lit];intro p;omega
theorem aaS (d:ic.ae E C) {G:Oper} {u:r4} {D e:Int} (a:Gg ic (aO i.g) G=some (l,u,D)) (ab:aA u.xs D=some e):dz E C G i (λan=>an=⟨(l,.val (.ptr .bx (.int u.k)) (some e))::i.g,i.h⟩):=by
 unfold Gg at a;split at a
 case h_2=>cases a
 rename_i I a3 ce r T W;split at a
 case h_2=>cases a
 rename_i c B s A O;cases q:fM ic.n ic.pin I with
 |false=>rw[q] at a;cases a
 |true=>
 rw[q] at a;simp only[cond_true,bH,fv] at a;obtain⟨rfl,rfl,rfl⟩:=a;have m:=List.find?_some A;have p:=CO A;rw[bg] at m;obtain rfl:=es m.1;obtain rfl:=es m.2;rw[d.2.2.2.1.2.2.2.2] at p;obtain⟨a0,S,R⟩:=E.gok c p;rintro v c2 ⟨av,cv,bB,j⟩ next a4 V
 have o:=j.aO r;rw[O] at o;generalize Y:v.eval r=c1 at o;cases o with|val am=>
 obtain⟨_,rfl⟩:=am;obtain⟨aj,f,N⟩:=Jk ab;obtain⟨_,bd,bs,z,ar,co,t⟩:=j.glob d.2.2.2.2.1 d.2.2.2.1.2.2.2.1 c p;simp only[fY,Value.slice.injEq,and_true] at z;obtain⟨rfl,_⟩:=z;rcases t with t|⟨bl,ci,y,P,ad⟩
 ·rw[t] at f;simp at f
 simp only[bH,Addr.mk.injEq,and_true] at y;obtain⟨rfl,rfl⟩:=y;obtain⟨M,J,K,L⟩:=ad _ _ N;have Z:v.eval r=.int B (s.toNat:Nat):=(by rw[Y];show Value.int B s=_;rw[<-aj]);refine Yields.wp (Q:=λw F=>w=.val (.ptr .bx (.int c.k)) (some e)/\F=[]) j (.pure (aaW S R W Z f) (.val (τ:=.ptr .bx (.int c.k)) (x:=some e) (cs:=[.pointer (some ⟨c.b,0+s.toNat*1,none⟩)]) ⟨rfl,c.b,_,M,rfl,P,J,K,L⟩) ⟨rfl,rfl⟩) T (fM.ok d q) ?_;rintro w F H ap ⟨rfl,rfl⟩ U X;exact V _ H ap rfl U X
theorem Mi (b:World) (d:Nat) (a:Option Addr) (e:s.underlying c=some (.pointer q)):(Op.equalIn (d+1) c (.pointer a) (.pointer none)).run s b=.ok a.isNone b:=by cases a<;>simp[Op.equalIn,run_underlying e]
theorem Z9 (b:World) (a:Option Addr) (d:s.underlying c=some (.pointer q)):(binOp .eql c (.pointer a) (.pointer none)).run s b=.ok (.bool a.isNone) b:=by simp only[binOp];simp[Op.equal,Op.maxDepth,Mi b 9999 a d]
theorem aab (b:World) (a:Option Addr) (d:s.underlying c=some (.pointer q)):(binOp .neq c (.pointer a) (.pointer none)).run s b=.ok (.bool (!a.isNone)) b:=by simp only[binOp];simp[Op.equal,Op.maxDepth,Mi b 9999 a d]
theorem Wr {e:Act} (l:bE C i e.tmps v B y z) (a:E7 i.h (aO i.g m)=some I):∃k:Option Addr,e.eval m=.pointer k/\k.isNone=I:=by
 have b:=l.aO m;obtain⟨v1,c⟩:∃j,j=e.eval m:=⟨_,rfl⟩;rw[<-c] at b;unfold E7 at a;split at a
 ·rename_i D w j f;rw[f] at b;cases b with|val d=>
  obtain⟨_,d⟩:=d;cases a;cases j with
  |none=>subst d;exact⟨none,c.symm,rfl⟩
  |some G=>obtain⟨q,t,r,rfl,_⟩:=d;exact⟨some ⟨q,t,none⟩,c.symm,rfl⟩
 ·rename_i id E f;split at a
  case h_2=>cases a
  rename_i w o;split at a
  case h_2=>cases a
  rename_i F s;cases a;rw[f] at b;cases b with|ref p n=>
  rw[o] at p;cases p;have:=n.ty;rw[s] at this;cases this;obtain⟨I,u,r,rfl,x,A⟩:=ny (l.tree id _ o).1 n;exact⟨some ⟨I,u,none⟩,c.symm,rfl⟩
 ·cases a
theorem Zr (s:ic.ae E C) {K:Oper} (a:FK ic (aO i.g) i.h K=some (b,I)):dz E C K i (λW=>W=⟨(b,.val .bool I)::i.g,i.h⟩):=by
 unfold FK at a;split at a
 case h_2=>cases a
 rename_i O l p X o ap y D;split at a
 case h_2=>cases a
 rename_i N j R S;cases k:fM ic.n ic.pin O with
 |false=>rw[k] at a;cases a
 |true=>
 rw[k] at a;simp only[cond_true] at a;have U:∃e,E.P.underlying p=some (.pointer e):=by
  rw[s.1] at j;unfold JC at j;split at j
  ·rename_i ad an V;obtain⟨_,e,_,_,_,_,T,_⟩:=E.ok p _ V;exact⟨e,T⟩
  ·cases j
 obtain⟨e,F⟩:=U;rintro x m ⟨Y,am,ab,f⟩ next Z A
 have u:=f.aO o;rw[S] at u;obtain⟨fa,H⟩:∃L,L=x.eval o:=⟨_,rfl⟩;rw[<-H] at u;cases u with|cv _=>
 obtain⟨M,G,B⟩:=Wr f R;have J:x.eval o=.pointer none:=H.symm;have z:∀l m,(eqGuard l p X o (.pointer M) (.pointer none)).run E.P m=.ok () m:=λl m=>(by unfold eqGuard;cases l<;>simp);split at a
 ·cases a;refine Yields.wp (Q:=λc d=>c=.val .bool I/\d=[]) f (.pure (v:=.bool _) (by simp only[execOp,D,G,J,Sem.run_bind,z,Result.andThen_ok,Z9 _ _ F,B];rfl) (.bool _) ⟨rfl,rfl⟩) y (fM.ok s k) ?_;rintro c d q w ⟨rfl,rfl⟩ r t;exact A _ q w rfl r t
 ·cases a;refine Yields.wp (Q:=λc d=>c=.val .bool (!N)/\d=[]) f (.pure (v:=.bool _) (by simp only[execOp,D,G,J,Sem.run_bind,z,Result.andThen_ok,aab _ _ F,B];rfl) (.bool _) ⟨rfl,rfl⟩) y (fM.ok s k) ?_;rintro c d q w ⟨rfl,rfl⟩ r t;exact A _ q w rfl r t
 ·cases a
theorem Ju (g:ic.ae E C) {m:Array Oper} {o:aH->Option A} {r:A} (j:m[b]?=some h) (l:ji m i h true) (a:i1 ic i h o=some r) (e:∀d,o d=some r->g1 E C m f d u):g1 E C m (b::f) i u:=
by
 unfold i1 at a;split at a
 ·rename_i q B y k;obtain⟨D,x,a⟩:=c9.1 a;refine g1.op j l ((aaS g k x).mono (λd c=>?_));subst c;exact e _ a
 split at a
 ·rename_i q p k;refine g1.op j l ((Zr g k).mono (λd c=>?_));subst c;exact e _ a
 split at a
 ·rename_i q y k;obtain⟨t,v⟩:=Wu a;refine g1.op j l ((Wv g k).mono (λd c=>?_));obtain⟨p,rfl,w⟩:=c;cases p with
  |false=>exact e _ t
  |true=>exact e _ (v (w rfl))
 split at a
 ·rename_i id d z c;exact g1.op j l ((Tz g c a).mono (λd ⟨s,n,c⟩=>by subst c;exact e _ n))
 ·exact g1.op j l ((IC g a).mono (λd ⟨s,n,c⟩=>by subst c;exact e _ n))
theorem xE {l2:ab0} (e:ic.ae E C) {x:Array Oper} {y:aH->Option A} {F:A} {z:aH->Prop} (k:∀q,y q=some F->g1 E C x l2 q z):∀{w:ab0} {b:aH},jC ic x w b y=some F->g1 E C x (w++l2) b z
 |[],b,a=>k _ a
 |i::w,b,a=>by
  simp only[jC] at a;split at a
  ·cases a
  rename_i I p;split at a
  ·rename_i l;exact Ju e p (by unfold ji;rw[l]) a (λq c=>xE e k c)
  ·rename_i H r l;split at a
   case h_2=>cases a
   rename_i f B u D;split at a
   case h_3=>cases a
   case h_2=>
    rename_i J j;cases c:fM ic.n ic.pin B with
    |false=>rw[c] at a;cases a
    |true=>
    rw[c] at a;have v:=fM.ok e c;refine g1.skip p D v ?_ (xE e k a);unfold ji;rw[l];simp only[u,j]
   rename_i s j;cases c:fM ic.n ic.pin B with
   |false=>rw[c] at a;cases a
   |true=>
   rw[c] at a;have v:=fM.ok e c;simp only[cond_true] at a;split at a
   ·rename_i o;obtain rfl:s=r:=(by simpa using o);have m:∀d,gt (⟨(f,.val .bool s)::b.g,b.h⟩:aH).g d=gt b.g d:=λd=>by
     show gt ((f,_)::b.g) d=_;rw[hz];split
     ·rename_i t;rw[<-t,j]
     ·rfl
    refine g1.same m rfl (Ju e p ?_ a (λq c=>xE e k c));unfold ji;rw[l];simp only[u,m f,j];simp
   ·rename_i o;have G:s=!r:=by cases s<;>cases r<;>first|rfl|cases o
    have m:∀d,gt (⟨(f,.val .bool (!r))::b.g,b.h⟩:aH).g d=gt b.g d:=λd=>by
     show gt ((f,_)::b.g) d=_;rw[hz];split
     ·rename_i t;rw[<-t,j,G]
     ·rfl
    refine g1.same m rfl (g1.skip p D v ?_ (xE e k a));unfold ji;rw[l];simp only[u,m f,j];exact o
theorem UZ (h:ic.ae E C) {c:Array Oper} {b:aH->Option A} {d:A} (g:∀a,b a=some d->u a) (e:jC ic c f i b=some d):g1 E C c f i u:=by have:=xE (l2:=[]) h (λa j=>g1.nil (g a j)) e;rwa[mj] at this
end
end
structure i6 (s t:aH):Prop where
 g:∀k,gt s.g k=gt t.g k
 h:∀id,al s.h id=al t.h id
theorem i6.refl (a:aH):i6 a a:=⟨λ_=>rfl,λ_=>rfl⟩
theorem i6.symm {c d:aH} (b:i6 c d):i6 d c:=⟨λa=>(b.g a).symm,λa=>(b.h a).symm⟩
theorem i6.trans {d e f:aH} (b:i6 d e) (c:i6 e f):i6 d f:=⟨λa=>(b.g a).trans (c.g a),λa=>(b.h a).trans (c.h a)⟩
theorem br.r8 (a:br) (e:aH) (b:Nat):gt (a.app e).g b=match a.d with
 |some (c,f)=>if c=b then f else ej a.S a.keep (gt e.g b)
 |none=>ej a.S a.keep (gt e.g b):=by
 obtain⟨c,h,i,k⟩:=a;cases c with
 |none=>
  show gt (lZ h i e.g) b=_;rw[oj,ns]
 |some j=>
  obtain⟨c,f⟩:=j;show gt ((c,f)::lZ h i e.g) b=_;rw[hz,oj,ns]
theorem br.qr (a:br) (b:aH) (id:Nat):al (a.app b).h id=(al a.put id).or (if id∈a.S then none else al b.h id):=by show al (a.put++px a.S b.h) id=_;rw[sC,iR,j2]
theorem i6.app {c t:aH} (b:i6 c t) (a:br):i6 (a.app c) (a.app t):=
 ⟨λd=>by rw[br.r8,br.r8,b.g],λd=>by rw[br.qr,br.qr,b.h]⟩
theorem ff.seq {a:dA} {c:abS} (b:i6 i X) (d:ff a i c v):ff a X c v:=d.less (λe=>.inr (b.g e).symm) (λid=>(b.h id).symm)
def AW:Option (Nat×ak)->abW->Bool
 |some b,some a=>Nat.beq b.1 a
 |none,none=>true
 |_,_=>false
def rm:ak->Bool
 |.dead=>false
 |_=>true
def nH (b c:ab0):Bool:=b.all λa=>dj a c
theorem nH.ok (b:nH f A=true):∀a∈f,a∈A:=λa c=>ep.1 (eM.1 b a c)
def nG (a:ab0):ak->Bool
 |.ref id []=>dj (id+500000) a
 |_=>false
def uX:Op->Bool
 |.move _=>true
 |_=>false
def Bg:Nat->List aV->Option (Nat×List aV)
 |k,.snd::a=>Bg (k+1) a
 |k,.fst::a=>some (k,a)
 |_,_=>none
def xA:List aV->Option (Nat×List aV)
 |.deref::.unst::a=>Bg 0 a
 |_=>none
def uQ (q:List aV):abW:=match q with
 |[]=>some 1
 |q=>match xA q with
  |some (a,[])=>some (2*a+2)
  |some (a,_::_)=>some (2*a+3)
  |none=>none
def pj:ak->Option cZ
 |.ref id a=>match uQ a with
  |some b=>some (id,b)
  |none=>none
 |.addr id a=>match uQ a with
  |some b=>some (id,b)
  |none=>none
 |.app id a _ _ d=>match dj id d,xA a with
  |false,some (c,_)=>some (id,2*c+3)
  |_,_=>none
 |_=>none
def q2 (b:ab0) (a:ak):Bool:=match pj a with
 |some (id,d)=>Nat.blt id 500000&&(dj (id+1000000*d) b&&a.ids.all λc=>Nat.beq c id||dj c b)
 |none=>false
def B4 (c:List aV) (a:Nat):Bool:=match xA c with
 |some (b,d)=>Nat.beq a 1||(Nat.ble 2 a&&(!(Nat.beq (a/2) (b+1))||(Nat.beq (a %2) 0&&nt d)))
 |none=>false
def qq (a:Operand->ak) (b:Oper):Option (Nat×List aV):=match b.op with
 |.call {callee:=.builtin .append,args:=xs,argTypes:=_}=>match xs.toList with
  |[x,_]=>match a x with
   |.ref id (d::c)=>some (id,d::c)
   |_=>none
  |_=>none
 |_=>none
def FF (c:ab0) (b:Operand->ak) (d:Oper):Bool:=c.all λa=>Nat.blt a 1000000||(match qq b d with
 |some (id,e)=>Nat.beq (a %1000000) (id+500000)&&(Nat.blt id 500000&&B4 e (a/1000000))
 |none=>false)
def Vi (a:ab0) (c:List (Nat×List aV)) (b:ab0):Bool:=b.all λid=>Nat.blt id 500000&&((dj id a&&(dj (id+500000) a||j0 c (.ref id [])))||dj (id+1500000) a)
def y2:ak->Bool
 |.dC b=>b.all rm
 |a=>rm a
def mO (op:Op) (b:ab0) (a:ak):Bool:=match op with
 |.extract _ d=>match a with
  |.dC e=>match e[d]? with
   |some c=>rm c&&(nH c.ids b||nG b c)
   |none=>false
  |_=>false
 |op=>y2 a&&(nH a.ids b||((uX op&&nG b a)||q2 b a))
def oa (c e:ab0) (g:Operand->ak) (f:Oper) (b:br):Bool:=
 AW b.d f.dst&&(f.op.operands.toList.all λh=>mO f.op c (g h))&&Vi e b.keep b.S&&(b.put.all λa=>Nat.blt a.1 500000&&(dj a.1 e||dj (a.1+1500000) e))&&((match b.d with|some a=>nH a.2.ids c||(nG c a.2||q2 c a.2)|none=>true)&&FF e g f)
theorem gQ {e:Type} (b:Bool) (d:Option a) (c:a->Option e):(bif b then d else none).bind c=bif b then d.bind c else none:=by cases b<;>rfl
theorem aaG (tt:List (TypeId×ah)) (d:List (Nat×aB)) (c:TypeId) (f e:ak) (b:br->Option a):pZ tt d c f e b=(pZ tt d c f e some).bind b:=by
 unfold pZ;split
 ·rfl
 split
 case h_2=>rfl
 split
 ·rfl
 rw[gQ];congr 1;split
 ·split
  case h_2=>rfl
  cases Nat.beq _ _
  ·simp only[cond_false,iq,aG]
  ·rfl
 ·split
  case h_2=>rfl
  rw[gQ];simp only[iq,aG]
 ·split
  ·simp only[iq,aG]
  ·rfl
theorem E2 (tt:List (TypeId×ah)) (d:List (Nat×aB)) (c:TypeId) (g e f:ak) (b:br->Option a):mL tt d c g e f b=(mL tt d c g e f some).bind b:=by
 unfold mL;split
 case h_2=>rfl
 split
 case h_2=>rfl
 split
 case h_2=>rfl
 split
 case h_2=>rfl
 rw[gQ];congr 1;split
 ·simp only[iq,aG]
 ·rfl
theorem V3 (tt:List (TypeId×ah)) (e:List (Nat×aB)) (d:Nat) (c:TypeId) (g f:ak) (b:br->Option a):pK tt e d c g f b=(pK tt e d c g f some).bind b:=by
 unfold pK;split
 case h_2=>rfl
 split
 case h_2=>rfl
 split
 case h_2=>rfl
 split
 case h_2=>rfl
 split
 case h_2=>rfl
 rw[gQ];simp only[iq,aG]
theorem TO (tt:List (TypeId×ah)) (d:List (Nat×aB)) (c:TypeId) (g e f:ak) (b:br->Option a):py tt d c g e f b=(py tt d c g e f some).bind b:=by
 unfold py;split
 case h_2=>rfl
 rw[gQ,E2]
theorem VV (tt:List (TypeId×ah)) (d:List (Nat×aB)) (c:TypeId) (f e:ak) (b:br->Option a):pJ tt d c f e b=(pJ tt d c f e some).bind b:=by
 unfold pJ;split
 case h_2=>rfl
 split
 case h_2=>rfl
 split
 case h_2=>rfl
 split
 case h_2=>rfl
 rw[gQ];simp only[iq,aG]
theorem RY (tt:List (TypeId×ah)) (d:List (Nat×ah)) (f:List (Nat×aB)) (e:Nat) (c:TypeId) (g h:ak) (b:br->Option a):nf tt d f e c g h b=(nf tt d f e c g h some).bind b:=by
 unfold nf;split
 ·rfl
 split
 ·split
  case h_2=>rfl
  rw[gQ];congr 1;split
  ·simp only[iq,aG]
  ·split
   case h_2=>rfl
   split
   case h_2=>rfl
   split
   case h_2=>rfl
   cases Nat.beq _ _
   ·simp only[cond_false,iq,aG]
   ·rfl
 ·split
  case h_2=>rfl
  split
  case h_2=>rfl
  rw[gQ];simp only[iq,aG]
 ·split
  case h_2=>rfl
  rw[gQ];simp only[iq,aG]
 ·split
  case h_2=>rfl
  rw[gQ];simp only[iq,aG]
 ·rfl
theorem R1 (tt:List (TypeId×ah)) (d:List (Nat×ah)) (f:List (Nat×aB)) (e:Nat) (c:TypeId) (g h:ak) (b:br->Option a):mw tt d f e c g h b=(mw tt d f e c g h some).bind b:=by
 unfold mw;split
 ·unfold wh;split
  case h_2=>rfl
  split
  case h_2=>rfl
  split
  case h_2=>rfl
  rw[gQ];simp only[iq,aG]
 ·exact RY _ _ _ _ _ _ _ b
theorem Th (tt:List (TypeId×ah)) (e:List (Nat×aB)) (d:Nat) (c:TypeId) (f g:ak) (b:br->Option a):pk tt e d c f g b=(pk tt e d c f g some).bind b:=by
 unfold pk;split
 ·rfl
 split
 ·split
  case h_2=>rfl
  rw[gQ];simp only[iq,aG]
 ·split
  case h_2=>rfl
  rw[gQ];simp only[iq,aG]
 ·rfl
theorem Sn (tt:List (TypeId×ah)) (d:List (Nat×ah)) (g:List (Nat×aB)) (f:Operand->ak) (e:Nat) (c:TypeId) (h:List (Nat×Operand)) (b:br->Option a):qv tt d g f e c h b=(qv tt d g f e c h some).bind b:=by
 unfold qv;split
 ·rfl
 split
 ·rw[gQ];congr 1;split
  ·rw[gQ];rfl
  ·rfl
 rw[gQ];congr 1;split
 ·rfl
 split
 ·rw[gQ];rfl
 ·rfl
theorem Sr (tt:List (TypeId×ah)) (d:List (Nat×ah)) (f:List (Nat×aB)) (e:Nat) (c:TypeId) (g:ak) (b:br->Option a):se tt d f e c g b=(se tt d f e c g some).bind b:=by
 unfold se;split
 ·split
  ·rw[gQ];congr 1;split<;>rfl
  ·split
   ·rw[gQ];rfl
   ·rfl
  ·rfl
 ·rfl
theorem Sv (tt:List (TypeId×ah)) (d:List (Nat×ah)) (g:List (Nat×aB)) (f:Operand->ak) (e:Nat) (c:TypeId) (h:Nat) (i:List (Nat×Operand)) (b:br->Option a):qx tt d g f e c h i b=(qx tt d g f e c h i some).bind b:=by
 unfold qx;split
 ·simp only;rw[gQ];congr 1;split
  ·rfl
  ·split
   ·rw[gQ];rfl
   ·rfl
 ·rfl
theorem xl {e:fG} (c:Operand->ak) (d:List (Nat×aB)) (f:Oper) (b:br->Option a):aj e c d f b=(aj e c d f some).bind b:=by
 unfold aj;split
 ·split
  ·exact aaG _ _ _ _ _ b
  ·exact E2 _ _ _ _ _ _ b
  ·exact E2 _ _ _ _ _ _ b
  ·exact TO _ _ _ _ _ _ b
  ·split
   case h_2=>rfl
   exact VV _ _ _ _ _ b
  ·rfl
 rw[gQ];congr 1;split
 ·split
  case h_2=>rfl
  split
  ·split<;>rfl
  ·split<;>rfl
 ·split
  case h_2=>rfl
  split
  ·rfl
  rw[gQ];congr 1;simp only[lX,iq,gQ,aG]
 ·split
  case h_2=>rfl
  rw[gQ];congr 1;exact R1 _ _ _ _ _ _ _ b
 ·split
  case h_2=>rfl
  exact Th _ _ _ _ _ _ b
 ·split
  ·rfl
  ·rfl
  ·rfl
  ·split
   ·rfl
   ·split
    ·simp only[iq,aG]
    ·simp only[iq,aG]
  ·simp only[iq,aG]
 ·exact Sn _ _ _ _ _ _ _ b
 ·exact V3 _ _ _ _ _ _ b
 ·exact Sr _ _ _ _ _ _ b
 ·exact Sv _ _ _ _ _ _ _ _ b
 ·split
  ·rfl
  ·simp only[iq,aG]
  ·rw[gQ];simp only[iq,aG]
  ·split
   ·rfl
   ·simp only[iq,aG]
   ·rfl
theorem Tv {f:fG} (c:Operand->ak) (d:List (Nat×aB)) (e:Oper) (b:br->Option a):iP f c d e b=(iP f c d e some).bind b:=by
 unfold iP;split
 ·exact xl c d e b
 ·rw[gQ];congr 1;refine(xl _ _ _ _).trans (Eq.trans ?_ (congrArg (λg=>Option.bind g b) (xl _ _ _ _)).symm);simp only[iq,gQ,aG]
theorem Jg:∀{d:List aV} {c b:Nat} {e:List aV},Bg c d=some (b,e)->c<=b/\d=List.replicate (b-c) .snd++.fst::e
 |[],_,_,_,a=>by cases a
 |s::d,c,b,e,a=>by
  cases s<;>simp only[Bg] at a<;>first|(cases a;done)|skip
  ·cases a;exact⟨aY _,ac⟩
  ·obtain⟨g,f⟩:=Jg a;refine⟨U,?_⟩;rw[(U:b-c=(b-(c+1))+1),List.replicate_succ,jm,<-f]
theorem Bh {c:List aV} (a:xA j=some (b,c)):j=.deref::.unst::(List.replicate b .snd++.fst::c):=by
 unfold xA at a;split at a
 ·rename_i j;have:=(Jg a).2;rw[Nat.sub_zero] at this;rw[this]
 ·cases a
theorem AU:∀{j k:Nat} {r r':List aV},j≠k->jx (List.replicate j .snd++.fst::r) (List.replicate k .snd++.fst::r')=true
 |0,0,_,_,a=>absurd rfl a
 |0,k+1,_,_,_=>rfl
 |j+1,0,_,_,_=>rfl
 |j+1,k+1,r,r',a=>AU (j:=j) (k:=k) (r:=r) (r':=r') (λb=>a (by rw[b]))
theorem JG:∀{j:Nat} {r:List aV},fB (List.replicate j .snd++.fst::r) (List.replicate j .snd++[.fst])=nt r
 |0,r=>by cases r<;>rfl
 |j+1,r=>JG (j:=j) (r:=r)
theorem Za {id:Nat} (h:B4 j b=true) (e:pj d=some (id,b)) (z:∀k∈d.ids,k=id\/k∉f):h1 f [(id,j),(id,[])] d=true:=by
 unfold B4 at h;split at h
 case h_2=>cases h
 rename_i k t E;have p:=Bh E;have C:nt j=true:=(by rw[p];rfl);have H:∀i:Nat,Nat.beq i i=true:=o5;have w:∀g,uQ g=some b->fB j g=true:=by
  intro g l;unfold uQ at l;split at l
  ·have:fB j []=nt j:=by cases j with|nil=>rfl|cons q j=>cases q<;>rfl
   rw[this];exact C
  ·split at l
   ·rename_i a o;cases l;rw[Bh o,p];have m:(2*a+2)/2=a+1:=U;have n:(2*a+2) %2=0:=U;rw[m,n] at h;show fB (List.replicate k .snd++.fst::t) (List.replicate a .snd++[.fst])=true;by_cases c:k=a
    ·subst c;rw[JG];simpa using h
    ·exact AT (AU c)
   ·rename_i a q F o;cases l;rw[Bh o,p];have m:(2*a+3)/2=a+1:=U;have n:(2*a+3) %2=1:=U;rw[m,n] at h;show fB (List.replicate k .snd++.fst::t) (List.replicate a .snd++.fst::(q::F))=true;by_cases c:k=a
    ·subst c;simp at h
    ·exact AT (AU c)
   ·cases l
 unfold pj at e;split at e
 ·rename_i i g;split at e
  case h_2=>cases e
  rename_i y r;cases e;cases g with
  |nil=>simp[h1,j0]
  |cons q g=>simp[h1,j0,w _ r]
 ·rename_i i g;split at e
  case h_2=>cases e
  rename_i y r;cases e;simp[h1,j0,Ex,w _ r]
 ·rename_i i g J I v;split at e
  case h_2=>cases e
  rename_i a G u o;cases e;have m:(2*a+3)/2=a+1:=U;have n:(2*a+3) %2=1:=U;rw[m,n] at h;have A:jx j g=true:=by
   rw[Bh o,p];show jx (List.replicate k .snd++.fst::t) (List.replicate a .snd++.fst::G)=true;by_cases c:k=a
   ·subst c;simp at h
   ·exact AU c
  have D:(v.all λi=>!(dj i f))=true:=eM.2 λx s=>by
   rcases z x (e0 _ s) with c|c
   ·rw[c] at s;rw[ep.2 s] at u;cases u
   ·cases B:dj x f
    ·rfl
    ·exact absurd (ep.1 B) c
  show((v.all λi=>!(dj i f))&&([(id,j),(id,[])].any λc=>Nat.beq c.1 id&&jx c.2 g))=true;rw[D];simp[A]
 ·cases e
section
theorem EY {g B:Operand->ak} {b:List (Nat×Operand)} (d:∀e∈b,g e.2=B e.2):∀(f:ah) (a:Nat),oq g b f a=oq B b f a
 |.pr j h,a=>by
  simp only[oq,EY d h (a+1)];cases i:kq b a with
  |none=>rfl
  |some c=>
   have:g c=B c:=d (a,c) (xM i);simp only[this]
 |.nil,_=>rfl
 |.int _,_=>rfl
 |.bool,_=>rfl
 |.str,_=>rfl
 |.a6 _ _,_=>rfl
 |.ptr _ _,_=>rfl
 |.osl _,_=>rfl
 |.optr _,_=>rfl
 |.st _,_=>rfl
 |.de,_=>rfl
 |.mp _,_=>rfl
 |.dJ _ _,_=>rfl
theorem Kf {h:List (Nat×aB)} {g B:Operand->ak} {b:List (Nat×Operand)} (d:∀e∈b,g e.2=B e.2):∀(f:ah) (a:Nat),li h g b f a=li h B b f a
 |.pr k i,a=>by
  simp only[li,Kf d i (a+1)];cases j:kq b a with
  |none=>rfl
  |some c=>
   have:g c=B c:=d (a,c) (xM j);simp only[this]
 |.nil,_=>rfl
 |.int _,_=>rfl
 |.bool,_=>rfl
 |.str,_=>rfl
 |.a6 _ _,_=>rfl
 |.ptr _ _,_=>rfl
 |.osl _,_=>rfl
 |.optr _,_=>rfl
 |.st _,_=>rfl
 |.de,_=>rfl
 |.mp _,_=>rfl
 |.dJ _ _,_=>rfl
section
variable {tt:List (TypeId×ah)} {an:List (Nat×ah)} {h A:List (Nat×aB)} {d:Nat} {g B:Operand->ak}
theorem B0 {a:c8} (c:∀b∈a.toArray,g b=B b):a.map g=a.map B:=by
 cases a with
 |none=>rfl
 |some b=>simp only[fe,bH];exact c b ac
theorem TV (e:∀a∈N.operands,g a=B a):fo tt an h g d N=fo tt an h B d N:=by
 cases N
 case build k ps=>
  have:∀b∈ps.toList,g b.2=B b.2:=λb l=>e b.2 (by simp only[Op.operands,v2,bT];exact⟨b,l,rfl⟩);simp only[fo,wl,EY this]
 case buildSlice k n ps=>
  have:∀b∈ps.toList,g b.2=B b.2:=λb l=>e b.2 (by simp only[Op.operands,v2,bT];exact⟨b,l,rfl⟩);simp only[fo,uj,hU this]
 case slice k a p hi v=>
  simp only[Op.operands] at e;have s:g a=B a:=e a ac;have t:p.map g=p.map B:=B0 (λj f=>e j (by simp at f|-;simp[f]));have u:hi.map g=hi.map B:=B0 (λj f=>e j (by simp at f|-;simp[f]));cases v
  ·simp only[fo,s,t,u]
  ·rfl
 case makeMap k o=>
  cases o<;>rfl
 case makeFunc r x cs=>
  cases r<;>try rfl
  have:∀a∈cs.toList,g a=B a:=λa m=>e a (by simp only[Op.operands];exact oL _ (by simpa using m));simp only[fo,hU this]
 case call c=>
  obtain⟨w,q,y⟩:=c;have i:∀a∈q.toList,g a=B a:=λa m=>e a (by simp only[Op.operands,Call.operands];exact oL _ (by simpa using m));clear e;simp only[fo];split
  ·rename_i a k aj _;rw[aj] at i;rw[i a ac]
  ·rename_i a o aj;rw[aj] at i;rw[i a ac,hU (λj f=>i j (by simp[f]))]
  ·rename_i a o aj;rw[aj] at i;rw[i a ac,hU (λj f=>i j (by simp[f]))]
  ·rfl
 all_goals (simp only[Op.operands] at e;simp only[fo])
 all_goals (first|rfl|(simp_all;done))
theorem TY (b:∀a∈N.operands,g a=B a):je tt an h g d N=je tt an h B d N:=by
 cases N
 case slice j a l hi q=>
  simp only[Op.operands] at b;have f:g a=B a:=b a ac;have n:l.map g=l.map B:=B0 (λi e=>b i (by simp at e|-;simp[e]));have o:hi.map g=hi.map B:=B0 (λi e=>b i (by simp at e|-;simp[e]));cases q
  ·simp only[je,f,n,o]
  ·rfl
 case call c=>
  obtain⟨s,m,t⟩:=c;have k:∀a∈m.toList,g a=B a:=λa p=>b a (by simp only[Op.operands,Call.operands];exact oL _ (by simpa using p));clear b;simp only[je];split
  ·rename_i a j aj _;rw[aj] at k;rw[k a ac]
  ·rfl
 case unOp r j a=>
  have f:g a=B a:=b a (by simp[Op.operands]);cases r<;>simp only[je,f]
 all_goals (simp only[Op.operands] at b;simp only[je])
 all_goals (first|rfl|(simp_all;done))
theorem Iy {q:fG} {s:Oper} {v:br->Option a} (b:∀e∈s.op.operands,g e=B e):aj q g h s v=aj q B h s v:=by
 have A:=λ(d:Nat)=>TY (tt:=q.tt) (an:=q.an) (h:=h) (d:=d) b;have z:=λ(d:Nat)=>TV (tt:=q.tt) (an:=q.an) (h:=h) (d:=d) b;unfold aj;cases C:s.dst with
 |none=>
  simp only;split
  ·rename_i k e o c;rw[c] at b;rw[b e (by simp[Op.operands]),b o (by simp[Op.operands])]
  ·rename_i k e n o c;rw[c] at b;rw[b e (by simp[Op.operands]),b n (by simp[Op.operands]),b o (by simp[Op.operands])]
  ·rename_i k e n o c;rw[c] at b;rw[b e (by simp[Op.operands]),b n (by simp[Op.operands]),b o (by simp[Op.operands])]
  ·rename_i k e n o c;rw[c] at b;rw[b e (by simp[Op.operands]),b n (by simp[Op.operands]),b o (by simp[Op.operands])]
  ·rename_i l x c;rw[c] at b;split
   ·rename_i e p k w aj _;have i:∀f∈l.toList,g f=B f:=λf m=>b f (by simp only[Op.operands,Call.operands];exact oL _ (by simpa using m));rw[aj] at i;rw[i e ac,i p ac]
   ·rfl
  ·rfl
 |some d=>
  simp only;congr 1;split
  ·rename_i y e p c;rw[c] at b;rw[b y (by simp[Op.operands]),b e (by simp[Op.operands]),b p (by simp[Op.operands])]
  ·rename_i f l _ c;rw[c] at b;have:l.toList.map g=l.toList.map B:=hU λe i=>b e (by simp only[Op.operands,Call.operands];exact oL _ (by simpa using i));have m:g f=B f:=b f (by simp[Op.operands,Call.operands]);rw[this,m]
  ·rename_i l x c;rw[c] at b;split
   ·rename_i e p k w aj _;have i:∀f∈l.toList,g f=B f:=λf m=>b f (by simp only[Op.operands,Call.operands];exact oL _ (by simpa using m));rw[aj] at i;rw[i e ac,i p ac]
   ·rfl
  ·rename_i l x c;rw[c] at b;split
   ·rename_i e p k w aj _;have i:∀f∈l.toList,g f=B f:=λf m=>b f (by simp only[Op.operands,Call.operands];exact oL _ (by simpa using m));rw[aj] at i;rw[i e ac,i p ac]
   ·rfl
  ·rename_i e c;rw[c] at b;rw[b e (by simp[Op.operands])]
  ·rename_i k u c;rw[c] at b;have r:∀j∈u.toList,g j.2=B j.2:=λj t=>b j.2 (by simp only[Op.operands,v2,bT];exact⟨j,t,rfl⟩);simp only[qv,EY r,Kf r]
  ·rename_i k e n c;rw[c] at b;rw[b e (by simp[Op.operands]),b n (by simp[Op.operands])]
  ·rename_i k e c;rw[c] at b;rw[b e (by simp[Op.operands])]
  ·rename_i k D u c;rw[c] at b;have r:∀j∈u.toList,g j.2=B j.2:=λj t=>b j.2 (by simp only[Op.operands,v2,bT];exact⟨j,t,rfl⟩);simp only[qx,hU r]
  ·rw[A,z]
def ez (h A:List (Nat×aB)) (a:ak):Prop:=∀id∈a.ids,al h id=al A id
theorem Zf (a:ez h A t):pQ h t=pQ A t:=by
 cases t with
 |ref id b=>simp only[pQ,a id (by simp[ak.ids])]
 |_=>rfl
theorem Ze {id:Nat} (a:pQ h t=some (id,j)):id∈t.ids:=by
 unfold pQ at a;split at a
 ·cases a;simp[ak.ids]
 ·split at a
  ·split at a
   ·cases a;simp[ak.ids]
   ·cases a
  ·cases a
 ·cases a
theorem aaH {b:ak} {d:br->Option a} (e:ez h A b) (g:ez h A t):pZ tt h c b t d=pZ tt A c b t d:=by
 unfold pZ;rw[<-Zf e];split
 ·rfl
 ·rename_i id j f;rw[e id (Ze f)];cases t with
  |ref i k=>simp only[g i (by simp[ak.ids])]
  |_=>rfl
theorem Nv (a:ez h A t):jJ h n t=jJ A n t:=by
 cases t with
 |ref id b=>simp only[jJ,a id (by simp[ak.ids])]
 |view id b e d=>simp only[jJ,a id (by simp[ak.ids])]
 |val c g=>cases c<;>rfl
 |cv f=>unfold jJ;split<;>first|rfl|(split<;>first|rfl|simp_all)
 |_=>rfl
theorem RZ {f:ak} {j:br->Option a} (g:ez h A f) (k:ez h A t) (n:al h d=al A d):nf tt an h d c f t j=nf tt an A d c f t j:=by
 unfold nf;split
 ·rfl
 ·have e:∀i:ah,jJ h i t=jJ A i t:=λi=>Nv k;cases f with
  |ref id b=>
   cases b with
   |nil=>
    simp only[g id (by simp[ak.ids]),e];cases t with
    |ref o l=>
     cases l with
     |nil=>simp only[k o (by simp[ak.ids])]
     |cons m l=>rfl
    |_=>rfl
   |cons m b=>simp only[g id (by simp[ak.ids]),e,n]
  |view id b q p=>
   cases b with
   |nil=>simp only[g id (by simp[ak.ids]),e]
   |cons m b=>rfl
  |cv r=>simp only[e];split<;>first|rfl|(split<;>first|rfl|simp_all)
  |_=>rfl
theorem YZ {a:ak} (d:ez h A t):te h a t=te A a t:=by
 unfold te;cases a with
 |ref id b=>
  cases b with
  |nil=>rfl
  |cons f b=>
   cases t with
   |ref e c=>
    cases c with
    |nil=>simp only[d e (by simp[ak.ids])]
    |cons g c=>rfl
   |_=>rfl
 |_=>rfl
theorem R2 {b:ak} {e:br->Option a} (g:ez h A t) (i:ez h A b) (f:al h d=al A d):mw tt an h d c t b e=mw tt an A d c t b e:=by
 unfold mw;rw[YZ i,RZ g i f];split
 ·rename_i id l k m j;obtain⟨rfl,_,_⟩:=FB j;unfold wh;rw[g id (by simp[ak.ids]),f]
 ·rfl
theorem Ti {e:ak} {g:br->Option a} (i:ez h A e) (k:ez h A t):pk tt h d c e t g=pk tt A d c e t g:=by
 unfold pk;split
 ·rfl
 ·have j:∀f:ah,jJ h f t=jJ A f t:=λf=>Nv k;cases e with
  |ref id b=>
   cases b with
   |nil=>simp only[i id (by simp[ak.ids]),j]
   |cons l b=>rfl
  |view id b n m=>
   cases b with
   |nil=>simp only[i id (by simp[ak.ids]),j]
   |cons l b=>rfl
  |_=>rfl
theorem C8 (b:ez h A t):n0 an h d t=n0 an A d t:=by
 cases t with
 |ref id a=>
  cases a with
  |nil=>simp only[n0,b id (by simp[ak.ids])]
  |cons c a=>rfl
 |view id a f e=>
  cases a with
  |nil=>simp only[n0,b id (by simp[ak.ids])]
  |cons c a=>rfl
 |cv t=>unfold n0;split<;>first|rfl|(split<;>first|rfl|simp_all)
 |_=>rfl
theorem Y7 (b:ez h A t):vl h n t=vl A n t:=by
 cases t with
 |ref id a=>
  cases a with
  |nil=>simp only[vl,b id (by simp[ak.ids])]
  |cons c a=>rfl
 |_=>rfl
theorem Kg {b:List (Nat×Operand)} (c:∀i∈b,ez h A (g i.2)):∀(d:ah) (a:Nat),li h g b d a=li A g b d a
 |.pr k e,a=>by
  simp only[li,Kg c e (a+1)];cases f:kq b a with
  |none=>rfl
  |some j=>simp only[Y7 (c (a,j) (xM f))]
 |.nil,_=>rfl
 |.int _,_=>rfl
 |.bool,_=>rfl
 |.str,_=>rfl
 |.a6 _ _,_=>rfl
 |.ptr _ _,_=>rfl
 |.osl _,_=>rfl
 |.optr _,_=>rfl
 |.st _,_=>rfl
 |.de,_=>rfl
 |.mp _,_=>rfl
 |.dJ _ _,_=>rfl
theorem SW (b:ez h A t):sh h n t=sh A n t:=by
 cases t with
 |ref id a=>
  cases a with
  |nil=>simp only[sh,b id (by simp[ak.ids])]
  |cons c a=>rfl
 |_=>rfl
theorem Ii {c:ah}:∀{l:List ak},(∀a∈l,ez h A a)->si h c l=si A c l
 |[],_=>rfl
 |x::e,b=>by simp only[si,SW (b x ac),Ii (l:=e) (λa d=>b a (by simp[d]))]
theorem HD (a:ez h A t):mx h f t n=mx A f t n:=by
 cases t with
 |ref id b=>simp only[mx,a id (by simp[ak.ids])]
 |_=>rfl
theorem ak.Kc {id:Nat} (c:t∈L) (e:id∈t.ids):id∈(ak.dt b L).ids:=by obtain⟨a,d,rfl⟩:=fH.1 c;exact ak.xU (l:=L) (i:=a) (be d) e
theorem Jl {b:ab0}:∀{τs:List ah} {avs:List ak},(∀a∈avs,ez h A a)->nr h b τs avs=nr A b τs avs
 |[],[],_=>rfl
 |[],_::_,_=>rfl
 |_::_,[],_=>rfl
 |τ::f,d::as,c=>by simp only[nr,HD (c d ac),Jl (τs:=f) (avs:=as) (λa e=>c a (by simp[e]))]
theorem qY {S:ab0}:∀{ps:List fP} {avs:List ak},(∀b∈avs,ez h A b)->ee h S ps avs=ee A S ps avs
 |[],[],_=>rfl
 |[],_::_,_=>rfl
 |p::f,[],_=>by cases p<;>rfl
 |.v q::f,g::as,a=>by simp only[ee,HD (a g ac),qY (ps:=f) (avs:=as) (λb d=>a b (by simp[d]))]
 |.c z r::f,g::as,a=>by
  have e:=qY (S:=S) (ps:=f) (avs:=as) (λb d=>a b (by simp[d]));cases g with
  |dt u i=>
   have:nr h S r i=nr A S r i:=Jl (λb d id t=>a (.dt u i) ac id (ak.Kc d t));simp only[ee,this,e]
  |_=>rfl
 |.m q::f,g::as,a=>by
  have e:=qY (S:=S) (ps:=f) (avs:=as) (λb d=>a b (by simp[d]));cases g with
  |ref id p=>
   cases p with
   |nil=>simp only[ee,a (.ref id []) ac id (by simp[ak.ids]),e]
   |cons l p=>rfl
  |_=>rfl
 |.o q::f,g::as,a=>by
  have e:=qY (S:=S) (ps:=f) (avs:=as) (λb d=>a b (by simp[d]));cases g with
  |ref id p=>
   cases p with
   |nil=>simp only[ee,a (.ref id []) ac id (by simp[ak.ids]),e]
   |cons l p=>rfl
  |cv x=>simp only[ee,e]
  |_=>rfl
 |.w B::f,g::as,a=>by
  have e:=qY (S:=S) (ps:=f) (avs:=as) (λb d=>a b (by simp[d]));cases g with
  |view id p k j=>
   cases p with
   |nil=>simp only[ee,a (.view id [] k j) ac id (by simp[ak.ids]),e]
   |cons l p=>rfl
  |_=>rfl
 |.n::f,g::as,a=>by
  have e:=qY (S:=S) (ps:=f) (avs:=as) (λb d=>a b (by simp[d]));cases g with
  |cv x=>simp only[ee,e]
  |_=>rfl
 |.s y i::f,g::as,a=>by
  have e:=qY (S:=S) (ps:=f) (avs:=as) (λb d=>a b (by simp[d]));cases g with
  |ref id p=>cases p<;>simp only[ee,e]
  |view id p k j=>cases p<;>simp only[ee,e]
  |_=>simp only[ee,e]
theorem Vw (a:ez h A t):sZ tt h c t=sZ tt A c t:=by
 unfold sZ;cases t with
 |ref id d=>simp only[a id (by simp[ak.ids])]
 |app id d b i f=>simp only[a id (by simp[ak.ids])]
 |val b j=>cases e7 tt c with|none=>rfl|some e=>cases b<;>rfl
 |cv g=>cases e7 tt c with|none=>rfl|some e=>simp only;split<;>first|rfl|(split<;>first|rfl|simp_all)
 |_=>rfl
theorem Wb (a:ez h A t):s7 tt h c t=s7 tt A c t:=by
 unfold s7;cases t with
 |ref id d=>simp only[a id (by simp[ak.ids])]
 |val b f=>cases jE tt c with|none=>rfl|some e=>cases b<;>rfl
 |_=>rfl
theorem VG {a:ak} (b:ez h A t):s2 tt h c t a I=s2 tt A c t a I:=by
 unfold s2;cases t with
 |ref id e=>simp only[b id (by simp[ak.ids])]
 |val d f=>split<;>first|rfl|(cases d<;>rfl)
 |_=>split<;>rfl
theorem V9 (a:al h d=al A d):vc tt an h d c=vc tt an A d c:=by unfold vc;rw[a]
theorem E3 {b:br->Option a} {d e:ak} (f:ez h A t):mL tt h c t d e b=mL tt A c t d e b:=by
 unfold mL;cases t with
 |ref id g=>simp only[f id (by simp[ak.ids])]
 |_=>rfl
theorem V4 {b:br->Option a} {e:ak} (f:ez h A t):pK tt h d c t e b=pK tt A d c t e b:=by
 unfold pK;cases t with
 |ref id g=>simp only[f id (by simp[ak.ids])]
 |_=>rfl
theorem TP {d:br->Option a} {b e:ak} (f:ez h A t):py tt h c t b e d=py tt A c t b e d:=by
 unfold py;cases t with
 |ref id j=>
  cases b with
  |jd g k i=>simp only[E3 f]
  |_=>rfl
 |_=>rfl
theorem VW {b:br->Option a} {d:ak} (e:ez h A t):pJ tt h c t d b=pJ tt A c t d b:=by
 unfold pJ;cases t with
 |ref id f=>simp only[e id (by simp[ak.ids])]
 |_=>rfl
theorem U0 {b:ak} (a:ez h A t):sV tt h c t b=sV tt A c t b:=by
 unfold sV;cases t with
 |ref id d=>simp only[a id (by simp[ak.ids])]
 |view id d g f=>simp only[a id (by simp[ak.ids])]
 |val e j=>cases e<;>rfl
 |cv i=>rfl
 |_=>rfl
theorem VD (a:ez h A t):s1 tt h c t=s1 tt A c t:=by
 unfold s1;cases t with
 |ref id b=>simp only[a id (by simp[ak.ids])]
 |addr id b=>simp only[a id (by simp[ak.ids])]
 |val e d=>cases e<;>first|rfl|(cases d<;>rfl)
 |cv f=>rfl
 |_=>rfl
theorem Us (a:ez h A t):sM tt h c t b=sM tt A c t b:=by
 unfold sM;cases t with
 |ref id d=>simp only[a id (by simp[ak.ids])]
 |addr id d=>simp only[a id (by simp[ak.ids])]
 |val g f=>cases g<;>first|rfl|(rename_i i e;cases f<;>first|rfl|(cases e<;>rfl))
 |cv j=>rfl
 |_=>rfl
theorem Uu (a:ez h A t):hT.uR tt h c t b=hT.uR tt A c t b:=by
 unfold hT.uR;cases t with
 |ref id e=>simp only[a id (by simp[ak.ids])]
 |val d g=>cases d<;>rfl
 |cv f=>rfl
 |_=>rfl
theorem Ws (a:ez h A t):ta h t=ta A t:=by
 unfold ta;cases t with
 |ref id c=>simp only[a id (by simp[ak.ids])]
 |val b e=>cases b<;>rfl
 |cv d=>rfl
 |_=>rfl
theorem aat {b a:Option ak} (d:ez h A t):ts tt h c t b a=ts tt A c t b a:=by
 unfold ts;cases t with
 |ref id f=>simp only[d id (by simp[ak.ids])]
 |val e i=>cases e<;>rfl
 |cv g=>rfl
 |_=>rfl
theorem VR {a:ak} (b:al h d=al A d):s5 tt an h d c a t=s5 tt an A d c a t:=by unfold s5;rw[b]
theorem RS (a:al h d=al A d):ub tt an h d c=ub tt an A d c:=by unfold ub;rw[a]
theorem TW (e:∀a∈N.operands,ez h A (g a)) (f:al h d=al A d):fo tt an h g d N=fo tt an A g d N:=by
 cases N
 case box b a=>simp only[fo,wm];rw[f]
 case buildSlice b n ps=>simp only[fo,uj];rw[f]
 case alloc b=>exact RS f
 case makeSlice b l c=>exact VR f
 case makeMap b r=>
  cases r
  ·exact V9 f
  ·rfl
 case lookup b a k ok=>exact VG (e a (by simp[Op.operands]))
 case load b a=>exact VD (e a (by simp[Op.operands]))
 case nilCheck a=>exact Ws (e a (by simp[Op.operands]))
 case indexAddr b a i=>exact U0 (e a (by simp[Op.operands]))
 case fieldAddr b a n=>exact Us (e a (by simp[Op.operands]))
 case field b a n=>exact Uu (e a (by simp[Op.operands]))
 case slice b a u hi q=>
  cases q
  ·exact aat (e a (by simp[Op.operands]))
  ·rfl
 case call c=>
  obtain⟨s,m,v⟩:=c;have j:∀a∈m.toList,ez h A (g a):=λa p=>e a (by simp only[Op.operands,Call.operands];exact oL _ (by simpa using p));clear e;simp only[fo];split
  ·rename_i a b aj _;rw[aj] at j;split;exact Vw (j a ac);exact Wb (j a ac)
  ·rfl
  ·rfl
  ·rfl
 case makeFunc o t cs=>cases o<;>rfl
 all_goals rfl
theorem TZ (j:∀b∈N.operands,ez h A (g b)) (r:al h d=al A d):je tt an h g d N=je tt an A g d N:=by
 cases N
 case lookup f b k ok=>
  have a:=j b (by simp[Op.operands]);simp only[je];split
  ·rename_i w id e z aj q y;rw[q] at a;rw[a id (by simp[ak.ids])]
  ·rfl
 case makeSlice f l c=>simp only[je,r]
 case unOp v f b=>cases v<;>rfl
 case indexAddr f b i=>
  have a:=j b (by simp[Op.operands]);simp only[je];revert a;cases g b with
  |ref id e=>intro a;simp only[a id (by simp[ak.ids])]
  |view id e t s=>
   intro a;cases e with
   |nil=>simp only[a id (by simp[ak.ids])]
   |cons=>rfl
  |val m o=>intro _;cases m<;>rfl
  |_=>intro _;rfl
 case load f b=>
  have a:=j b (by simp[Op.operands]);simp only[je];revert a;cases g b with
  |ref id e=>intro a;simp only[a id (by simp[ak.ids])]
  |addr id e=>intro a;simp only[a id (by simp[ak.ids])]
  |val m o=>intro _;cases m<;>rfl
  |_=>intro _;rfl
 case slice f b t s u=>
  have a:=j b (by simp[Op.operands]);cases u
  ·simp only[je];revert a;cases g b with
   |ref id e=>intro a;simp only[a id (by simp[ak.ids])]
   |val m o=>intro _;cases m<;>rfl
   |_=>intro _;rfl
  ·rfl
 case call c=>
  obtain⟨x,p,B⟩:=c;have n:∀b∈p.toList,ez h A (g b):=λb a=>j b (by simp only[Op.operands,Call.operands];exact oL _ (by simpa using a));clear j;simp only[je];split
  ·rename_i b f aj _;rw[aj] at n;have a:=n b ac;cases e7 tt f with
   |none=>
    revert a;cases g b with
    |ref id e=>intro a;simp only;rw[a id (by simp[ak.ids])]
    |_=>intro _;rfl
   |some w=>
    revert a;cases g b with
    |ref id e=>intro a;simp only;rw[a id (by simp[ak.ids])]
    |_=>intro _;rfl
  ·rfl
 all_goals rfl
theorem rc {a:Callee} (b:m∈R.toList):m∈(Op.call {callee:=a,args:=R,argTypes:=V}).operands:=by simp only[Op.operands,Call.operands];exact oL _ (by simpa using b)
theorem Iz {D:fG} {z:Oper} (a:aj D g h z some=some p) (b:∀i∈z.op.operands,ez h A (g i)) (t:∀d,z.dst=some d->al h d=al A d) (x:∀c∈p.put,al h c.1=al A c.1):aj D g A z some=some p:=by
 unfold aj at a|-;cases G:z.dst with
 |none=>
  rw[G] at a;simp only at a|-;split at a
  ·rename_i o i B e;rw[e] at b;rw[<-aaH (b i (by simp[Op.operands])) (b B (by simp[Op.operands]))];exact a
  ·rename_i o i I B e;rw[e] at b;rw[<-E3 (b i (by simp[Op.operands]))];exact a
  ·rename_i o i I B e;rw[e] at b;rw[<-E3 (b i (by simp[Op.operands]))];exact a
  ·rename_i o i U B e;rw[e] at b;rw[<-TP (b i (by simp[Op.operands]))];exact a
  ·rename_i r P e;rw[e] at b;split at a
   case h_2=>cases a
   rename_i i I o L aj M;have l:∀k∈r.toList,ez h A (g k):=λk v=>b k (rc v);rw[aj] at l;rw[<-VW (l i ac)];exact a
  ·cases a
 |some d=>
  rw[G] at a;have t:=t d G;simp only at a|-;cases O:fM D.n D.pin d with
  |false=>rw[O] at a;cases a
  |true=>
  rw[O] at a;simp only[cond_true] at a|-;split at a
  ·rename_i V i C e;exact a
  ·rename_i k r _ e;rw[e] at b;split at a
   case h_2=>cases a
   rename_i Q J v
   try rw[v]
   try simp only
   have l:∀s∈r.toList.map g++J,ez h A s:=λs q=>by
    rcases eH.1 q with q|q
    ·obtain⟨i,j,rfl⟩:=bT.1 q;exact b i (rc j)
    ·intro id S;exact b k (by simp[Op.operands,Call.operands]) id (by rw[v];exact ak.Kc q S)
   split at a
   ·cases a
   rename_i m W;cases N:Nat.beq m.f Q with
   |false=>rw[N] at a;cases a
   |true=>
   rw[N] at a;simp only[cond_true,lX] at a|-;rw[<-qY l];obtain⟨s,q,a⟩:=c9.1 a;obtain⟨w,T,a⟩:=c9.1 a;simp only[q,T,aG];cases F:lQ d ⟨[],h⟩ (r.toList.map g++J) (eV m.ps s w) (hB m.rs (gU m.ps w)) with
   |false=>rw[F] at a;cases a
   |true=>
   rw[F] at a;have R:lQ d ⟨[],A⟩ (r.toList.map g++J) (eV m.ps s w) (hB m.rs (gU m.ps w))=true:=(by rw[<-F];unfold lQ;congr 1;rw[me,eM,eM];cases a;have u:∀c∈hE d (hj (hB m.rs (gU m.ps w))) 0 (hB m.rs (gU m.ps w)),al h c.1=al A c.1:=λc u=>x c (by simp only[eH];exact .inr u);exact⟨λH c y=>by rw[show al (aH.mk [] h).h c.1=al h c.1 from rfl,u c y];exact H c y,λH c y=>by rw[show al (aH.mk [] A).h c.1=al A c.1 from rfl,<-u c y];exact H c y⟩);rw[R];exact a
  ·rename_i r P e;rw[e] at b;split at a
   case h_2=>cases a
   rename_i i C o L aj M;have l:∀k∈r.toList,ez h A (g k):=λk v=>b k (rc v);rw[aj] at l;rw[<-R2 (l i ac) (l C ac) t];exact a
  ·rename_i r P e;rw[e] at b;split at a
   case h_2=>cases a
   rename_i i C o L aj M;have l:∀k∈r.toList,ez h A (g k):=λk v=>b k (rc v);rw[aj] at l;rw[<-Ti (l i ac) (l C ac)];exact a
  ·rename_i i e;rw[e] at b;have j:=b i (by simp[Op.operands]);revert a j;cases g i with
   |val ab C=>intro a _;exact a
   |cv B=>intro a j;simp only[<-C8 j];exact a
   |ref id E=>intro a j;simp only[<-C8 j];exact a
   |view id E Y X=>intro a j;simp only[<-C8 j];exact a
   |_=>intro a _;exact a
  ·rename_i o K e;rw[e] at b;have x:∀c∈K.toList,ez h A (g c.2):=λc u=>b c.2 (by simp only[Op.operands,v2,bT];exact⟨c,u,rfl⟩);rw[<-a];simp only[qv,Kg x,t]
  ·rename_i o i I e;rw[e] at b;rw[<-V4 (b i (by simp[Op.operands]))];exact a
  ·rename_i o i e;rw[e] at b;have j:=b i (by simp[Op.operands]);rw[<-a];simp only[se,t];revert j;cases g i with
   |ref id E=>
    intro j;cases E with
    |nil=>simp only[j id (by simp[ak.ids])]
    |cons U E=>rfl
   |_=>intro _;rfl
  ·rename_i o Z K e;rw[e] at b;have x:∀s∈K.toList.map (λc=>g c.2),ez h A s:=λs q=>by
    obtain⟨c,u,rfl⟩:=bT.1 q;exact b c.2 (by simp only[Op.operands,v2,bT];exact⟨c,u,rfl⟩)
   rw[<-a];simp only[qx,Ii x,t]
  ·rw[TZ b t,TW b t] at a;exact a
end
theorem Nm:∀d∈p2 N,d∈N.operands:=by
 intro d b;cases N<;>simp only[p2] at b<;>first|(cases b;done)|skip
 case assign y=>simpa[Op.operands] using b
 case box T y=>simpa[Op.operands] using b
 case build T ps=>simpa[Op.operands] using b
 case buildSlice T n ps=>simpa[Op.operands] using b
 case store T a v=>simp at b;simp[Op.operands,b]
 case mapUpdate T a k v=>simp at b;simp[Op.operands,b]
 case insert T a k v=>simp at b;simp[Op.operands,b]
 case entryStore T a k v=>simp at b;simp[Op.operands,b]
 case call c=>
  obtain⟨f,e,g⟩:=c;simp only at b;split at b
  ·exact rc b
  ·exact rc (List.mem_of_mem_drop b)
  ·cases b
theorem Be {e:ab2} {i:Nat} {g:Operand->ak}:∀{d:List Operand},∀id∈kJ e i g d,∃x∈d,g x=.ref id []
 |[],id,h=>by cases h
 |x::d,id,h=>by
  simp only[kJ] at h;split at h
  ·rename_i j f;rw[Bool.cond_eq_ite] at h;split at h
   ·rcases dh.1 h with rfl|h
    ·exact⟨x,ac,f⟩
    ·obtain⟨c,b,a⟩:=Be id h;exact⟨c,by simp[b],a⟩
   ·obtain⟨c,b,a⟩:=Be id h;exact⟨c,by simp[b],a⟩
  ·obtain⟨c,b,a⟩:=Be id h;exact⟨c,by simp[b],a⟩
theorem Jf {a:ab2} {c:Nat} {g B:Operand->ak}:∀{l:List Operand},(∀x∈l,g x=B x)->kJ a c g l=kJ a c B l
 |[],_=>rfl
 |x::l,b=>by simp only[kJ,b x ac,Jf (l:=l) (λe d=>b e (by simp[d]))]
theorem Je {h A:List (Nat×aB)} (c:∀id∈f,al h id=al A id) (a:ak):fx h f a=fx A f a:=by
 cases a with
 |ref id b=>
  cases b with
  |nil=>
   simp only[fx];cases d:dj id f with
   |false=>rfl
   |true=>rw[c id (ep.1 d)]
  |cons e b=>rfl
 |_=>rfl
theorem UD {h A:List (Nat×aB)} (e:∀id∈f,al h id=al A id) (a:ak):hg h f a=hg A f a:=by
 by_cases d:∃b,a=.dC b
 ·obtain⟨b,rfl⟩:=d;simp only[hg,hU (λa _=>Je e a)]
 ·rw[Bd (λb c=>d ⟨b,c⟩),Bd (λb c=>d ⟨b,c⟩),Je e a]
theorem Jd {h:List (Nat×aB)}:∀id∈(fx h f d).ids,id∈d.ids:=by
 intro id a;rcases lh h f d with⟨e,c,rfl,_,_,b⟩|⟨b,_⟩|⟨b,_⟩
 ·rw[b] at a;have:(pC c).ids=[]:=(by unfold pC;split<;>rfl);rw[this] at a;cases a
 ·rw[b] at a;cases a
 ·rw[b] at a;exact a
theorem Jw {c:ak->ak} (d:∀a,∀id∈(c a).ids,id∈a.ids):∀{b:List ak} {id:Nat},id∈ak.mF (b.map c)->id∈ak.mF b
 |[],_,h=>h
 |a::b,id,h=>by simp only[er,ak.mF,eH] at h|-;exact h.imp (d a id) (Jw d)
theorem UC {h:List (Nat×aB)}:∀id∈(hg h f d).ids,id∈d.ids:=by
 by_cases b:∃a,d=.dC a
 ·obtain⟨a,rfl⟩:=b;exactλid e=>Jw (λd=>Jd) e
 ·rw[Bd (λa c=>b ⟨a,c⟩)];exact Jd
theorem Tx {l:fG} {g B:Operand->ak} {h A:List (Nat×aB)} {c:Oper} (b:iP l g h c some=some p) (q:∀a∈c.op.operands,g a=B a) (o:∀a∈c.op.operands,ez h A (g a)) (t:∀d,c.dst=some d->al h d=al A d) (v:∀m∈p.put,al h m.1=al A m.1):iP l B A c some=some p:=by
 unfold iP at b|-;rw[<-Jf (λa j=>q a (Nm a j))];split
 ·rename_i f;rw[f] at b;rw[<-Iy q];exact Iz b o t v
 ·rename_i C;split at b
  ·rename_i f;exact(C f).elim
  have f:∀id∈kJ l.nq (sO c) g (p2 c.op),al h id=al A id:=λid e=>(by obtain⟨a,j,p⟩:=Be id e;exact o a (Nm a j) id (by rw[p];simp[ak.ids]));generalize kJ l.nq (sO c) g (p2 c.op)=i at b f|-;have y:lR A i=lR h i:=(by unfold lR;rw[me,eM,eM];exact⟨λr id e=>by rw[f id e];exact r id e,λr id e=>by rw[<-f id e];exact r id e⟩);rw[y];cases s:lR h i with
  |false=>rw[s] at b;cases b
  |true=>
  rw[s] at b;simp only[cond_true] at b|-;rw[xl] at b|-;obtain⟨n,w,k⟩:=c9.1 b;have D:n.put=p.put:=by
   cases u:(n.keep.all λF=>!dj F.1 i) with
   |false=>rw[u] at k;cases k
   |true=>rw[u] at k;cases k;rfl
  have x:aj l (λa=>hg A i (B a)) (del i A) c some=some n:=by
   rw[<-Iy (g:=λa=>hg h i (g a)) (λa j=>by simp only[q a j,UD f])];refine Iz w (λa j id e=>?_) (λd z=>?_) (λm E=>?_)
   ·rw[j2,j2,o a j id (UC id e)]
   ·rw[j2,j2,t d z]
   ·rw[j2,j2,v m (by rw[<-D];exact E)]
  rw[x];exact k
end
section
def ou (D:Array Oper) (a:Nat):ab0:=match D[a]? with
 |some b=>(b.after.toList.filter (Region.binds .any)).map (·.on)
 |none=>[]
def vC (a:Nat):br:=⟨some (a,.cv undef),[],[],[]⟩
def AY (ic:fG) {d:Type} (G C:ab0) (a:aH) (c:Oper) (e:br->Option d):Option d:=
 iP ic (aO a.g) a.h c λb=>bif oa G C (aO a.g) c b then e b else none
def g2 (ic:fG) (D:Array Oper) (G C:Nat->ab0) (e:Nat) (b:aH) (d:br):Prop:=
 ∃a,D[e]?=some a/\((ji D b a true/\iP ic (aO b.g) b.h a some=some d/\oa (G e) (C e) (aO b.g) a d=true)\/(ji D b a false/\∃c,a.dst=some c/\fM ic.n ic.pin c=true/\d=vC c))
def qZ (ic:fG) {k:Type} (D:Array Oper) (G C:Nat->ab0):ab0->aH->(aH->Option k)->Option k
 |[],a,b=>b a
 |i::e,a,b=>match D[i]? with
  |none=>none
  |some f=>match f.guard with
   |none=>AY ic (G i) (C i) a f λj=>qZ ic D G C e (j.app a) b
   |some (
    l,rG)=>match(D[l]?).bind (·.dst),f.dst with
    |some d,some c=>match gt a.g d with
     |.val .bool m=>bif fM ic.n ic.pin c then
      (match m==rG with
      |true=>AY ic (G i) (C i) ⟨(d,.val .bool rG)::a.g,a.h⟩ f λj=>qZ ic D G C e (j.app ⟨(d,.val .bool rG)::a.g,a.h⟩) b
      |false=>qZ ic D G C e ⟨(c,.cv undef)::(d,.val .bool (!rG))::a.g,a.h⟩ b) else none
     |.cv (.tuple _)=>bif fM ic.n ic.pin c then qZ ic D G C e ⟨(c,.cv undef)::a.g,a.h⟩ b else none
     |_=>none
    |_,_=>none
def mq (ic:fG) (D:Array Oper) (G C:Nat->ab0):ab0->aH->aH->Prop
 |[],a,b=>i6 a b
 |i::d,a,b=>∃c,g2 ic D G C i a c/\mq ic D G C d (c.app a) b
theorem RX {tt:List (TypeId×ah)} {id:Nat} (a:mw tt k e b c (.ref id (T::j)) d some=some p):p.keep=[(id,T::j),(id,[])]/\p.S=[id]/\al p.put id=al e id:=by
 have o:∀{n:ak} {l:aB},al e id=some l->al e b=none->some (br.mk (some (b,n)) [id] [(id,T::j),(id,[])] [(b,⟨.de,()⟩),(id,l)])=some p->p.keep=[(id,T::j),(id,[])]/\p.S=[id]/\al p.put id=al e id:=(by intro n l g h q;cases q;have r:¬b=id:=λp=>(by rw[p,g] at h;cases h);exact⟨rfl,rfl,by rw[bY,if_neg r,bY,if_pos rfl,g]⟩);unfold mw at a;split at a
 ·rename_i v w u x s;obtain⟨aj,_,_⟩:=FB s;cases aj;unfold wh at a;split at a
  case h_2=>cases a
  rename_i m l _ g h;split at a
  case h_2=>cases a
  rename_i f t;split at a
  case h_2=>cases a
  cases i:(a5 m f&&(Nat.ble f.size 1300&&(f.ix&&!(Nat.beq u id)))) with
  |false=>rw[i] at a;cases a
  |true=>
  rw[i] at a;obtain⟨_,_,a⟩:=c9.1 a;obtain⟨_,_,a⟩:=c9.1 a;exact o g h a
 ·unfold nf at a;split at a
  ·cases a
  rename_i m _;simp only at a;split at a
  case h_2=>cases a
  rename_i l g h;split at a
  case h_2=>cases a
  rename_i f t;cases i:(a5 m f&&Nat.ble f.size 1300&&f.ix) with
  |false=>rw[i] at a;cases a
  |true=>
  rw[i] at a;obtain⟨_,_,a⟩:=c9.1 a;obtain⟨_,_,a⟩:=c9.1 a;obtain⟨_,_,a⟩:=c9.1 a;exact o g h a
theorem C6 {id:Nat} (a:qq F h=some (id,j)):∃e f d g c b,h.op=.call {callee:=.builtin .append,args:=e,argTypes:=f}/\e.toList=[d,g]/\j=c::b/\F d=.ref id (c::b):=by
 unfold qq at a;split at a
 case h_2=>cases a
 rename_i e f k;split at a
 case h_2=>cases a
 rename_i d g l;split at a
 case h_2=>cases a
 rename_i m c b i;cases a;exact⟨e,f,d,g,c,b,k,l,rfl,i⟩
theorem Ix {ic:fG} {g:Operand->ak} {id:Nat} {i:List aV} (d:h.op=.call {callee:=.builtin .append,args:=R,argTypes:=V}) (t:R.toList=[m,w]) (s:j=T::i) (r:g m=.ref id (T::i)) (a:aj ic g e h some=some p):p.keep=[(id,j),(id,[])]/\p.S=[id]/\al p.put id=al e id:=by
 unfold aj at a;cases c:h.dst with
 |none=>rw[c] at a;simp only[d] at a;cases a
 |some o=>
  rw[c] at a;simp only at a;cases f:fM ic.n ic.pin o with
  |false=>rw[f] at a;cases a
  |true=>
  rw[f] at a;simp only[cond_true,d,t] at a;split at a
  case h_2=>cases a
  rename_i v x k l q u;cases q;cases b:Nat.beq k l with
  |false=>rw[b] at a;cases a
  |true=>
  rw[b,r] at a;rw[s];exact RX a
theorem IB {ic:fG} {id:Nat} (G:qq F h=some (id,j)) (b:iP ic F e h some=some p):p.keep=[(id,j),(id,[])]/\al p.put id=al e id:=by
 obtain⟨P,N,r,Q,l,k,i,q,w,m⟩:=C6 G;unfold iP at b;split at b
 ·obtain⟨a,_,E⟩:=Ix i q w m b;exact⟨a,E⟩
 ·generalize kJ ic.nq (sO h) F (p2 h.op)=c at b;cases u:lR e c with
  |false=>rw[u] at b;cases b
  |true=>
  rw[u] at b;simp only[cond_true] at b;rw[xl] at b;obtain⟨s,a,f⟩:=c9.1 b;cases o:s.keep.all (λy=>!dj y.1 c) with
  |false=>rw[o] at f;cases f
  |true=>
  rw[o] at f;cases f;have d:hg e c (.ref id (l::k))=.ref id (l::k)\/hg e c (.ref id (l::k))=.dead:=by
   rw[Bd (by intro L e;cases e)];rcases lh e c (.ref id (l::k)) with⟨y,M,p,_⟩|⟨p,_⟩|⟨p,_⟩
   ·cases p
   ·exact .inr p
   ·exact .inl p
  rcases d with d|d
  ·obtain⟨z,_,J⟩:=Ix (g:=λr=>hg e c (F r)) i q w (by show hg e c (F r)=_;rw[m];exact d) a;refine⟨z,?_⟩;show al s.put id=_;rw[J,j2];have I:id∉c:=λH=>by
    have:=eM.1 o (id,j) (by rw[z];simp);rw[ep.2 H] at this;cases this
   rw[if_neg I]
  ·exfalso;unfold aj at a;cases v:h.dst with
   |none=>rw[v] at a;simp only[i] at a;cases a
   |some C=>
    rw[v] at a;simp only at a;cases x:fM ic.n ic.pin C with
    |false=>rw[x] at a;cases a
    |true=>
    rw[x] at a;simp only[cond_true,i,q] at a;split at a
    case h_2=>cases a
    rename_i O R A B D K;cases D;cases t:Nat.beq A B with
    |false=>rw[t] at a;cases a
    |true=>
    rw[t] at a;simp only[cond_true,m,d,mw,te,nf] at a;split at a<;>cases a
section
variable {ic:fG} {D:Array Oper} {G C:Nat->ab0}
theorem AW.ok {e:Option (Nat×ak)} {a:abW} (c:AW e a=true):∀d b,e=some (d,b)->a=some d:=by
 intro d b g;subst g;cases a with
 |none=>cases c
 |some f=>rw[es (show Nat.beq d f=true from c)]
theorem ID {d:Oper} {j:br->Option a} {l:a} (e:AY ic f A i d j=some l):∃b,iP ic (aO i.g) i.h d some=some b/\oa f A (aO i.g) d b=true/\j b=some l:=by
 unfold AY at e;rw[Tv] at e;obtain⟨b,m,c⟩:=c9.1 e;refine⟨b,m,?_⟩;cases k:oa f A (aO i.g) d b with
 |false=>rw[k] at c;cases c
 |true=>rw[k] at c;exact⟨rfl,c⟩
def kZ (b:ab0) (a:ak):Prop:=(∀id∈a.ids,id∈b)\/(∃id,a=.ref id []/\id+500000∈b)\/∃id c,pj a=some (id,c)/\id<500000/\id+1000000*c∈b/\∀d∈a.ids,d=id\/d∈b
theorem q2.ok (a:q2 f d=true):∃id b,pj d=some (id,b)/\id<500000/\id+1000000*b∈f/\∀c∈d.ids,c=id\/c∈f:=by
 unfold q2 at a;split at a
 case h_2=>cases a
 rename_i id b e;simp only[bg] at a;refine⟨id,b,e,eT a.1,ep.1 a.2.1,λc g=>?_⟩;have:=eM.1 a.2.2 c g;rw[fy] at this;exact this.imp es ep.1
theorem nG.ok (a:nG f d=true):∃id,d=.ref id []/\id+500000∈f:=by
 unfold nG at a;split at a
 ·exact⟨_,rfl,ep.1 a⟩
 ·cases a
theorem kZ.ok {c:ab0} {b:ak} (a:(nH b.ids c||nG c b)=true):kZ c b:=by
 rcases fy _ _▸a with a|a
 ·exact .inl (nH.ok a)
 ·exact .inr (.inl (nG.ok a))
theorem kZ.Xz (a:(nH d.ids f||(nG f d||q2 f d))=true):kZ f d:=by
 simp only[fy] at a;rcases a with a|a|a
 ·exact .inl (nH.ok a)
 ·exact .inr (.inl (nG.ok a))
 ·exact .inr (.inr (q2.ok a))
theorem IX (a:uQ j=some b):1<=b:=by
 unfold uQ at a;split at a
 ·cases a;exact aY _
 ·split at a<;>first|(cases a;done)|(cases a;omega)
theorem Ig {id:Nat} (a:pj d=some (id,b)):1<=b:=by
 unfold pj at a;split at a
 ·split at a
  ·rename_i c;cases a;exact IX c
  ·cases a
 ·split at a
  ·rename_i c;cases a;exact IX c
  ·cases a
 ·split at a
  ·cases a;omega
  ·cases a
 ·cases a
def G1 (e:Op) (c:ab0) (b:ak):Prop:=
 (∃f d g a,e=.extract f d/\b=.dC g/\g[d]?=some a/\rm a=true/\kZ c a)\/
 ((∀f d,e≠.extract f d)/\y2 b=true/\kZ c b/\((∀id∈b.ids,id∈c\/∃a,1<=a/\id<500000/\id+1000000*a∈c)\/uX e=true))
theorem mO.ok {l:Op} {h:ab0} {g:ak} (a:mO l h g=true):G1 l h g:=by
 unfold mO at a;split at a
 ·rename_i f b;split at a
  case h_2=>cases a
  rename_i q;split at a
  case h_2=>cases a
  rename_i d o;rw[bg] at a;exact .inl ⟨f,b,q,d,rfl,rfl,o,a.1,.ok a.2⟩
 ·rename_i p;simp only[bg,fy] at a;refine .inr ⟨λf b c=>p f b c,a.1,?_⟩;rcases a.2 with a|⟨a,m⟩|a
  ·exact⟨.inl (nH.ok a),.inl λb e=>.inl (nH.ok a b e)⟩
  ·exact⟨.inr (.inl (nG.ok m)),.inr a⟩
  ·obtain⟨id,d,i,n,j,k⟩:=q2.ok a;refine⟨.inr (.inr ⟨id,d,i,n,j,k⟩),.inl λb e=>?_⟩;rcases k b e with c|c
   ·exact .inr ⟨d,Ig i,U,by rw[c];exact j⟩
   ·exact .inl c
theorem oa.ok {j b:ab0} {k:Operand->ak} {g:Oper} {c:br} (a:oa j b k g c=true):(∀d f,c.d=some (d,f)->g.dst=some d)/\(∀l∈g.op.operands,G1 g.op j (k l))/\(∀id∈c.S,id<500000/\(id∈b/\(id+500000∈b\/j0 c.keep (.ref id [])=true)\/id+1500000∈b))/\(∀h∈c.put,h.1<500000/\(h.1∈b\/h.1+1500000∈b))/\(∀d f,c.d=some (d,f)->kZ j f)/\(∀e∈b,1000000<=e->∃id i,qq k g=some (id,i)/\e %1000000=id+500000/\id<500000/\B4 i (e/1000000)=true):=by
 unfold oa at a;simp only[bg] at a;obtain⟨⟨⟨⟨n,o⟩,p⟩,q⟩,m,r⟩:=a;refine⟨AW.ok n,λl x=>?_,λid u=>?_,λh w=>?_,λd f t=>?_,λe v y=>?_⟩
 ·exact mO.ok (eM.1 o l (by simpa using x))
 ·have:=eM.1 p id u;simp only[bg,fy] at this;exact⟨eT this.1,this.2.imp (λa=>⟨ep.1 a.1,a.2.imp ep.1 (λa=>a)⟩) ep.1⟩
 ·have:=eM.1 q h w;simp only[bg,fy] at this;exact⟨eT this.1,this.2.imp ep.1 ep.1⟩
 ·rw[t] at m;exact kZ.Xz m
 ·have:=eM.1 r e v;rw[fy] at this;rcases this with a|a
  ·have:e<1000000:=eT a;omega
  ·split at a
   case h_2=>cases a
   rename_i id i s;simp only[bg] at a;exact⟨id,i,s,es a.1,eT a.2.1,a.2.2⟩
def o9 (d:ab0) (a c:ak):Prop:=(y2 a=true->kZ d a->c=a)/\∀f,a=.dC f->∃g,c=.dC g/\∀(e:Nat) (b:ak),f[e]?=some b->rm b=true->kZ d b->g[e]?=some b
theorem o9.refl (a:t=d):o9 f d t:=⟨λ_ _=>a,λc b=>⟨c,by rw[a,b],λ_ _ a _ _=>a⟩⟩
theorem o9.mO {d:ab0} {j:Op} {e f:ak} (g:o9 d e f) (c:mO j d e=true):hT.mO j d f=true:=by
 rcases mO.ok c with⟨r,o,p,k,h,a,b,i,m⟩|⟨h,a,b,i⟩
 ·obtain⟨q,l,n⟩:=g.2 p a;subst h a l;simp only[hT.mO,b,n o k b i m] at c|-;exact c
 ·rw[g.1 a b];exact c
theorem Tw {ic:fG} {g:List ak} (c:h.op=.extract m b) (a:iP ic F e h some=some p) (i:F m=.dC L) (j:Y m=.dC g) (k:L[b]?=some d) (l:g[b]?=some d):iP ic Y P h some=some p:=by
 unfold iP at a|-;have n:∀F:Operand->ak,kJ ic.nq (sO h) F (p2 h.op)=[]:=λF=>(by rw[c];rfl);rw[n] at a|-;simp only at a|-;unfold aj at a|-;cases f:h.dst with
 |none=>rw[f] at a;simp only[c] at a;cases a
 |some o=>
  rw[f] at a;simp only[c,je,fo,A5,i,j,k,l] at a|-;exact a
theorem Ty {ic:fG} (d:uX h.op=true) (a:iP ic F e h some=some p) (i:∀b∈h.op.operands,F b=Y b):iP ic Y P h some=some p:=by
 unfold uX at d;split at d
 ·rename_i b c;have j:F b=Y b:=i b (by rw[c];simp[Op.operands]);unfold iP at a|-;have g:∀F:Operand->ak,kJ ic.nq (sO h) F (p2 h.op)=[]:=λF=>(by rw[c];rfl);rw[g] at a|-;simp only at a|-;unfold aj at a|-;cases f:h.dst with
  |none=>rw[f] at a;simp only[c] at a;cases a
  |some k=>
   rw[f] at a;simp only[c,je,fo,<-j] at a|-;exact a
 ·cases d
theorem V0 (a:.tmp b∈h.op.operands):b∈h.looksAt D:=
 m7 _ (List.mem_filterMap.2 ⟨.tmp b,by simpa using a,rfl⟩)
theorem V1 (a:h.guard=some (l,I)) (c:(D[l]?).bind (·.dst)=some b):b∈h.looksAt D:=
 k4 _ (by rw[a];simp only[c];simp)
theorem Nr (l:∀j∈h.looksAt D,o9 f (gt i.g j) (gt X.g j)) (a:ji D i h I):ji D X h I:=by
 unfold ji at*;cases c:h.guard with
 |none=>rw[c] at a;exact a
 |some n=>
  obtain⟨m,p⟩:=n;rw[c] at a;simp only at a|-;cases d:(D[m]?).bind (·.dst) with
  |none=>rw[d] at a;exact a
  |some k=>
   rw[d] at a;simp only at a|-;have e:=l k (V1 c d);split at a
   ·rename_i q b;rw[e.1 (by rw[b];rfl) (by rw[b];exact .inl (by simp[ak.ids])),b];exact a
   ·rename_i o b;rw[e.1 (by rw[b];rfl) (by rw[b];exact .inl (by simp[ak.ids])),b];exact a
   ·exact a.elim
theorem g2.congr (d:g2 ic D G C b i p) (r:∀c,D[b]?=some c->∀z∈c.looksAt D,o9 (G b) (gt i.g z) (gt X.g z)) (s:∀c,D[b]?=some c->∀id,id∈G b\/id∈C b\/c.dst=some id->al i.h id=al X.h id) (am:∀id j,1<=j->id<500000->id+1000000*j∈G b->al i.h id=al X.h id):g2 ic D G C b X p:=by
 obtain⟨c,F,d⟩:=d;have r:=r c F;have s:=s c F;refine⟨c,F,d.imp (λ⟨q,l,f⟩=>⟨Nr r q,?_⟩) (λ⟨q,l⟩=>⟨Nr r q,l⟩)⟩;obtain⟨cs,f2,cv,f4,f5,V⟩:=oa.ok f;have x:∀a∈c.op.operands,o9 (G b) (aO i.g a) (aO X.g a):=by
  intro a e;cases a with
  |tmp z=>exact r z (V0 e)
  |const bl=>exact .refl (by cases bl<;>rfl)
  |func co=>exact .refl rfl
  |global M=>exact .refl rfl
 constructor
 ·by_cases N:∃a H,c.op=.extract a H
  ·obtain⟨a,H,w⟩:=N;have e:a∈c.op.operands:=(by rw[w];simp[Op.operands]);rcases f2 a e with⟨L,I,J,j,k,u,v,W,Y⟩|⟨k,_⟩
   ·rw[w] at k;cases k;obtain⟨c1,ar,a3⟩:=(x a e).2 J u;exact Tw w l u ar v (a3 _ j v W Y)
   ·exact absurd w (k a H)
  ·have E:∀a∈c.op.operands,y2 (aO i.g a)=true/\kZ (G b) (aO i.g a)/\((∀id∈(aO i.g a).ids,id∈G b\/∃j,1<=j/\id<500000/\id+1000000*j∈G b)\/uX c.op=true):=λa e=>by
    rcases f2 a e with⟨L,I,J,j,k,_⟩|⟨_,M⟩
    ·exact absurd ⟨L,I,k⟩ N
    ·exact M
   have m:∀a∈c.op.operands,aO i.g a=aO X.g a:=λa e=>((x a e).1 (E a e).1 (E a e).2.1).symm;by_cases O:uX c.op=true
   ·exact Ty O l m
   ·have Q:∀a∈c.op.operands,∀id∈(aO i.g a).ids,al i.h id=al X.h id:=λa e id ad=>by
     rcases((E a e).2.2.resolve_right O) id ad with d|⟨j,q,l,f⟩
     ·exact s id (.inl d)
     ·exact am id j q l f
    refine Tx l m Q (λT ab=>s T (.inr (.inr ab))) (λK P=>?_);rcases(f4 K P).2 with d|d
    ·exact s _ (.inr (.inl d))
    ·obtain⟨id,n,R,ce,ci,_⟩:=V _ d U;have:=(f4 K P).1;obtain⟨bs,bd,a,bB,a4,ar,o,t,_,A⟩:=C6 R;have y:a∈c.op.operands:=(by rw[o];exact rc (by rw[t];simp));exact Q a y K.1 (by rw[A];simp only[ak.ids,eS];omega)
 ·unfold oa at*;have:(c.op.operands.toList.all λa=>mO c.op (G b) (aO X.g a))=true:=by
   simp only[bg] at f;rw[eM];intro a e;exact(x a (by simpa using e)).mO (eM.1 f.1.1.1.2 a e)
  have Z:∀id n,qq (aO i.g) c=some (id,n)->qq (aO X.g) c=some (id,n):=λid n m=>by
   obtain⟨bs,bd,a,bB,a4,ar,o,t,S,A⟩:=C6 m;have y:a∈c.op.operands:=(by rw[o];exact rc (by rw[t];simp));have av:aO X.g a=aO i.g a:=by
    rcases f2 a y with⟨L,I,J,j,k,_⟩|⟨_,u,v,_⟩
    ·rw[o] at k;cases k
    ·exact(x a y).1 u v
   unfold qq;rw[o];simp only[t,av,A,S]
  have ap:FF (C b) (aO X.g) c=true:=by
   simp only[bg] at f;have B:=f.2.2;unfold FF at B|-;rw[eM] at B|-;intro a0 an;have:=B a0 an;rw[fy] at this|-;refine this.imp (λd=>d) (λd=>?_);split at d
   case h_2=>cases d
   rename_i id n m;rw[Z id n m];exact d
  simp only[bg] at f|-;exact⟨⟨⟨⟨f.1.1.1.1,this⟩,f.1.1.2⟩,f.1.2⟩,f.2.1,ap⟩
theorem g2.AZ (g:g2 ic D G C b i p) {v:Oper} (K:D[b]?=some v):(∀f c,p.d=some (f,c)->v.dst=some f)/\(∀id∈p.S,id<500000/\(id∈C b/\(id+500000∈C b\/j0 p.keep (.ref id [])=true)\/id+1500000∈C b))/\(∀n∈p.put,n.1<500000/\(n.1∈C b\/n.1+1500000∈C b))/\(∀f c,p.d=some (f,c)->kZ (G b) c)/\(∀id,id<500000->id+1500000∈C b->al (p.app i).h id=al i.h id)/\(∀id a e,id∈p.S->id<500000->id+1000000*a+500000∈C b->1<=a->pj e=some (id,a)->(∀u∈e.ids,u=id\/u∉p.S)->h1 p.S p.keep e=true):=by
 obtain⟨N,t,g⟩:=g;rw[K] at t;cases t;rcases g with⟨_,r,g⟩|⟨_,f,H,_,rfl⟩
 ·obtain⟨z,f2,A,f4,f5,q⟩:=oa.ok g;refine⟨z,A,f4,f5,λid I m=>?_,λid a e s I m M F J=>?_⟩
  ·obtain⟨j,L,k,w,x,_⟩:=q _ m U;obtain rfl:j=id:=U;obtain⟨_,E⟩:=IB k r;rw[br.qr,E];cases al i.h j with
   |none=>simp
   |some O=>rfl
  ·obtain⟨j,L,k,w,x,o⟩:=q _ m U;obtain rfl:j=id:=U;obtain⟨B,_⟩:=IB k r;rw[B];refine Za ?_ F J;have:(j+1000000*a+500000)/1000000=a:=U;rw[this] at o;exact o
 ·refine⟨λy c l=>?_,by simp[vC],by simp[vC],λy c l=>?_,λid _ _=>rfl,λid a e s=>by cases s⟩
  ·cases l;exact H
  ·cases l;exact .inl (by simp[ak.ids])
structure wb (f S:ab0) (keep:List (Nat×List aV)):Prop where
 a:∀id∈S,id∉f
 b:∀id∈S,id+500000∈f->j0 keep (.ref id [])=true
 c:∀id∈S,∀c v,1<=c->id<500000->id+1000000*c∈f->pj v=some (id,c)->(∀j∈v.ids,j=id\/j∉S)->h1 S keep v=true
theorem xJ (b:ab0) (c:List (Nat×List aV)) (a:ak):dB b c a=.dead\/dB b c a=a:=by unfold dB;cases(a.dR b&&!(h1 b c a))<;>simp
theorem EA (b:rm (dB f g d)=true):dB f g d=d:=by
 rcases xJ f g d with a|a
 ·rw[a] at b;cases b
 ·exact a
theorem Ez (a:∀id∈d.ids,id∉f):dB f g d=d:=by refine CE ?_ g;unfold ak.dR;rw[tO];intro id b c;exact a id b (ep.1 c)
theorem Ve (a:∀id∈d.ids,id∉f):ej f g d=d:=by refine abh ?_ g;unfold ak.dR;rw[tO];intro id b c;exact a id b (ep.1 c)
theorem JK (e:kZ A d) (i:wb A f g):dB f g d=d:=by
 rcases e with e|⟨id,rfl,e⟩|⟨id,q,n,r,s,o⟩
 ·exact Ez λid t h=>i.a id h (e id t)
 ·by_cases h:id∈f
  ·unfold dB;rw[show h1 f g (.ref id [])=j0 g (.ref id []) from rfl,i.b id h e];simp
  ·exact Ez λm j k=>by simp only[ak.ids,eS] at j;exact h (j▸k)
 ·by_cases h:id∈f
  ·unfold dB;rw[i.c id h q d (Ig n) r s n (λp u=>(o p u).imp (λe=>e) (λe h=>i.a p h e))];simp
  ·exact Ez λm j k=>by
    rcases o m j with l|l
    ·exact h (l▸k)
    ·exact i.a m k l
theorem xI (b:kZ A d) (e:wb A f g):ej f g d=d:=by
 cases d with
 |dC k=>
  rcases b with b|⟨id,c,_⟩|⟨id,j,c,_⟩
  ·exact Ve λid h i=>e.a id i (b id h)
  ·cases c
  ·cases c
 |_=>exact JK b e
theorem JJ (a:ab0) (b:List (Nat×List aV)) (d:ab0) (e:List (Nat×List aV)) (c:ak):dB a b (dB d e c)=dB d e (dB a b c):=by have h:∀a b,dB a b .dead=.dead:=λa b=>(by simp[dB,ak.dR,ak.ids]);rcases xJ a b c with f|f<;>rcases xJ d e c with g|g<;>simp only[f,g,h]
theorem xH (b:∀a,d≠.dC a):ej f g d=dB f g d:=by
 cases d with
 |dC a=>exact absurd rfl (b a)
 |_=>rfl
theorem Bq (c:ab0) (d:List (Nat×List aV)) (f:ab0) (i:List (Nat×List aV)) (b:ak):ej c d (ej f i b)=ej f i (ej c d b):=by
 by_cases k:∃a,b=.dC a
 ·obtain⟨a,rfl⟩:=k;simp only[ej,qg];exact congrArg _ (hU λb _=>JJ c d f i b)
 ·have h:∀a,b≠.dC a:=λa e=>k ⟨a,e⟩;have j:∀c d,∀a,dB c d b≠.dC a:=λc d a e=>by
   rcases xJ c d b with g|g
   ·rw[g] at e;cases e
   ·rw[g] at e;exact h a e
  rw[xH h,xH h,xH (j _ _),xH (j _ _),JJ]
theorem Vg (n e:ab0) (f:List (Nat×List aV)) (c:ak):o9 n (ej e f c) c:=by
 by_cases l:∃a,c=.dC a
 ·obtain⟨a,rfl⟩:=l;refine⟨λb _=>?_,λt j=>⟨a,rfl,λs q k g _=>?_⟩⟩
  ·simp only[ej] at b|-;have b:∀i∈a.map (dB e f),rm i=true:=eM.1 b;congr 1;rw[hU (λi p=>EA (b _ (bT.2 ⟨i,p,rfl⟩))),List.map_id']
  ·simp only[ej,ak.dC.injEq] at j;subst j;rw[eN] at k;obtain⟨r,o,rfl⟩:=eb.1 k;rw[EA g,o]
 ·have g:∀a,c≠.dC a:=λa d=>l ⟨a,d⟩;rw[xH g];have h:∀a,dB e f c≠.dC a:=λa d=>by
   rcases xJ e f c with b|b
   ·rw[b] at d;cases d
   ·rw[b] at d;exact g a d
  refine⟨λb _=>?_,λa d=>absurd d (h a)⟩;have:rm (dB e f c)=true:=by
   generalize dB e f c=m at b h;cases m with
   |dC a=>exact absurd rfl (h a)
   |_=>exact b
  exact(EA this).symm
theorem Vh (a:ak) (b:wb A f g):o9 A a (ej f g a):=by refine⟨λ_ d=>xI d b,λk c=>?_⟩;subst c;refine⟨_,rfl,λj i e _ h=>?_⟩;rw[eN,e,fe,JK h b]
theorem Hu (e:∀a c,p.d=some (a,c)->a≠b):gt (p.app i).g b=ej p.S p.keep (gt i.g b):=by
 rw[br.r8];cases f:p.d with
 |none=>rfl
 |some h=>obtain⟨a,c⟩:=h;simp only;rw[if_neg (e a c f)]
theorem VC {c:List (Nat×a)} {id:Nat} (d:∀b∈c,b.1≠id):al c id=none:=by
 induction c with
 |nil=>rfl
 |cons b c f=>
  obtain⟨g,h⟩:=b;rw[bY,if_neg (d (g,h) ac),f (λb e=>d b (by simp[e]))]
theorem Hv {id:Nat} (a:id∉p.S) (b:∀c∈p.put,c.1≠id):al (p.app i).h id=al i.h id:=by rw[br.qr,if_neg a,VC b];rfl
def qL (b c:ab0):Bool:=b.all λa=>!(dj a c)
theorem qL.ok (b:qL f A=true):∀a∈f,a∉A:=λa c d=>by have:=eM.1 b a c;rw[ep.2 d] at this;cases this
def dl (b:Oper):ab0:=match b.dst with
 |some a=>[a]
 |none=>[]
theorem vb (a:h.dst=some b):b∈dl h:=by unfold dl;rw[a];simp
def qM (b c:ab0):Bool:=b.all λa=>Nat.ble 1000000 a||!(dj a c)
theorem qM.ok (a:qM f A=true):∀b∈f,b<1000000->b∉A:=λb c e d=>by
 have:=eM.1 a b c;rw[ep.2 d,fy] at this;rcases this with a|a
 ·have:=eT a;omega
 ·cases a
def pD (e d f b:ab0):Bool:=(b.all λa=>Nat.blt a 1000000||(!(dj (a %1000000-500000) e)&&(!(dj (a %1000000-500000) d)&&!(dj (a %1000000-500000) f))))&&d.all λc=>Nat.blt c 1000000||(!(dj (c %1000000) b)&&(!(dj (c %1000000+1500000) b)||dj (c+500000) b))
theorem pD.ok {d i:ab0} (a:pD d A i f=true):(∀id,id<500000->id+1500000∈f->id∉d/\id∉A/\id∉i)/\∀id b,1<=b->id<500000->id+1000000*b∈A->id∉f/\(id+1500000∈f->id+1000000*b+500000∈f):=by
 unfold pD at a;rw[bg] at a;have e:∀{g:Nat} {h:ab0},(!(dj g h))=true->g∉h:=λ{g h} a c=>(by rw[ep.2 c] at a;cases a);constructor
 ·intro id k c;have:=eM.1 a.1 _ c;rw[fy] at this;rcases this with a|a
  ·have:id+1500000<1000000:=eT a;omega
  ·rw[(U:(id+1500000) %1000000-500000=id)] at a;simp only[bg] at a;exact⟨e a.1,e a.2.1,e a.2.2⟩
 ·intro id b l k c;have:=eM.1 a.2 _ c;rw[fy] at this;rcases this with a|a
  ·have:id+1000000*b<1000000:=eT a;omega
  ·rw[(U:(id+1000000*b) %1000000=id)] at a;simp only[bg,fy] at a;refine⟨e a.1,λj=>?_⟩;rcases a.2 with a|a
   ·exact absurd j (e a)
   ·exact ep.1 a
def sj (D:Array Oper) (G C:Nat->ab0) (a b:Nat):Bool:=
 match D[a]?,D[b]? with
 |some d,some c=>d.apart D c&&qM (C b) (dl d++(G a++C a))&&qM (C a) (dl c++G b)&&(pD (dl d) (G a) (C a) (C b)&&pD (dl c) (G b) (C b) (C a))
 |_,_=>false
theorem g2.u5 (a:g2 ic D G C b i p) {id:Nat} (m:500000<=id):al (p.app i).h id=al i.h id:=by obtain⟨k,c,j⟩:=a;have a:g2 ic D G C b i p:=⟨k,c,j⟩;obtain⟨_,d,e,_⟩:=a.AZ c;exact Hv (λf=>by have:=(d id f).1;omega) (λl g p=>by have:=(e l g).1;omega)
theorem g2.q6 (d:g2 ic D G C b i p) {id:Nat} (e:id∉C b):al (p.app i).h id=al i.h id:=by
 obtain⟨o,f,n⟩:=d;have d:g2 ic D G C b i p:=⟨o,f,n⟩;obtain⟨_,g,j,_,k,_⟩:=d.AZ f;by_cases c:id<500000/\id+1500000∈C b
 ·exact k id c.1 c.2
 ·refine Hv (λl=>?_) (λq m p=>?_)
  ·obtain⟨ar,a⟩:=g id l;rcases a with a|a
   ·exact e a.1
   ·exact c ⟨ar,a⟩
  ·subst p;obtain⟨ar,a⟩:=j q m;rcases a with a|a
   ·exact e a
   ·exact c ⟨ar,a⟩
theorem g2.swap {f:br} (m:sj D G C l b=true) (q:g2 ic D G C l i f) (B:g2 ic D G C b (f.app i) p):g2 ic D G C b i p/\g2 ic D G C l (p.app i) f/\i6 (p.app (f.app i)) (f.app (p.app i)):=by
 unfold sj at m;split at m
 case h_2=>cases m
 rename_i bd a4 R Q;simp only[bg] at m;obtain⟨⟨⟨dl,M⟩,N⟩,d0,d1⟩:=m;have M:=qM.ok M;have N:=qM.ok N;obtain⟨c1,an⟩:=pD.ok d0;obtain⟨c2,ap⟩:=pD.ok d1;obtain⟨co,cs,cv⟩:=Oper.apart_spec dl;obtain⟨bB,am,d8,ce,d9,ci⟩:=q.AZ R;obtain⟨i1,V,d6,a0,d7,a3⟩:=B.AZ Q;have d5:∀o∈a4.looksAt D,gt (f.app i).g o=ej f.S f.keep (gt i.g o):=λo x=>Hu λe v A z=>co e (bB e v A) (z▸x);have d4:∀o∈bd.looksAt D,gt (p.app i).g o=ej p.S p.keep (gt i.g o):=λo x=>Hu λe v A z=>cv e (i1 e v A) (z▸x);have P:∀e J s K,p.d=some (e,J)->f.d=some (s,K)->e≠s:=λe J s K A ds z=>cs s (bB s K ds) (z▸i1 e J A);have F:∀id,id<1000000->id∈G l\/id∈C l\/bd.dst=some id->id∉C b:=λid j c u=>M id u j (by
  rcases c with c|c|c
  ·simp[c]
  ·simp[c]
  ·simp[vb c])
 have H:∀id,id<1000000->id∈G b\/a4.dst=some id->id∉C l:=λid j c u=>N id u j (by
  rcases c with c|c
  ·simp[c]
  ·simp[vb c])
 have bs:∀id,id<1000000->id∈C b->id∉C l:=λid j c u=>F id j (.inr (.inl u)) c;have bl:wb (G b) f.S f.keep:=by
  refine⟨λid k h=>?_,λid k h=>?_,λid k t ad m n h T w=>?_⟩
  ·obtain⟨ar,a⟩:=am id k;rcases a with a|a
   ·exact H id U (.inl h) a.1
   ·exact(c2 id ar a).2.1 h
  ·obtain⟨ar,a⟩:=am id k;rcases a with a|a
   ·exact a.2.resolve_left (H _ U (.inl h))
   ·exact ci id 1 (.ref id []) k ar (by rw[(U:id+1000000*1+500000=id+1500000)];exact a) (aY _) rfl (λd2 w=>.inl (by simpa[ak.ids] using w))
  ·obtain⟨_,a⟩:=am id k;obtain⟨Y,Z⟩:=ap id t m n h;rcases a with a|a
   ·exact absurd a.1 Y
   ·exact ci id t ad k n (Z a) m T w
 have ab:wb (G l) p.S p.keep:=by
  refine⟨λid k h=>?_,λid k h=>?_,λid k t ad m n h T w=>?_⟩
  ·obtain⟨ar,a⟩:=V id k;rcases a with a|a
   ·exact F id U (.inl h) a.1
   ·exact(c1 id ar a).2.1 h
  ·obtain⟨ar,a⟩:=V id k;rcases a with a|a
   ·exact a.2.resolve_left (F _ U (.inl h))
   ·exact a3 id 1 (.ref id []) k ar (by rw[(U:id+1000000*1+500000=id+1500000)];exact a) (aY _) rfl (λd2 w=>.inl (by simpa[ak.ids] using w))
  ·obtain⟨_,a⟩:=V id k;obtain⟨Y,Z⟩:=an id t m n h;rcases a with a|a
   ·exact absurd a.1 Y
   ·exact a3 id t ad k n (Z a) m T w
 have y:g2 ic D G C b i p:=by
  refine B.congr (λW r o x=>?_) (λW r id n=>?_) (λid t m n h=>?_)
  ·rw[Q] at r;cases r;rw[d5 o x];exact Vg _ _ _ _
  ·rw[Q] at r;cases r;rcases bb id 500000 with j|j
   ·refine q.q6 ?_;rcases n with c|c|c
    ·exact H id U (.inl c)
    ·exact bs id U c
    ·exact H id U (.inr c)
   ·exact q.u5 j
  ·exact q.q6 (ap id t m n h).1
 have I:g2 ic D G C l (p.app i) f:=by
  refine q.congr (λW r o x=>?_) (λW r id n=>?_) (λid t m n h=>?_)
  ·rw[R] at r;cases r;rw[d4 o x];exact Vh _ ab
  ·rw[R] at r;cases r;rcases bb id 500000 with j|j
   ·exact(y.q6 (F id U n)).symm
   ·exact(y.u5 j).symm
  ·exact(y.q6 (an id t m n h).1).symm
 refine⟨y,I,?_,λid=>?_⟩
 ·intro o;rw[br.r8 p,br.r8 f (p.app i),br.r8 f i,br.r8 p i];cases O:f.d with
  |none=>
   cases E:p.d with
   |none=>exact Bq _ _ _ _ _
   |some X=>
    obtain⟨e,v⟩:=X;simp only;split
    ·exact(xI (a0 e v E) bl).symm
    ·exact Bq _ _ _ _ _
  |some d3=>
   obtain⟨s,L⟩:=d3;cases E:p.d with
   |none=>
    simp only;split
    ·exact xI (ce s L O) ab
    ·exact Bq _ _ _ _ _
   |some X=>
    obtain⟨e,v⟩:=X;have P:e≠s:=P e v s L E O;simp only;by_cases q:e=o
    ·subst q;rw[if_pos rfl,if_neg (Ne.symm P),if_pos rfl];exact(xI (a0 e v E) bl).symm
    ·rw[if_neg q,if_neg q];split
     ·exact xI (ce s L O) ab
     ·exact Bq _ _ _ _ _
 ·rcases bb id 500000 with j|j
  ·by_cases u:id∈C b
   ·have av:=bs id U u;rw[I.q6 av,br.qr p,br.qr p,q.q6 av]
   ·rw[B.q6 u,br.qr f,br.qr f,y.q6 u]
  ·rw[B.u5 j,q.u5 j,I.u5 j,y.u5 j]
theorem g2.seq (a:i6 i X) (c:g2 ic D G C b i p):g2 ic D G C b X p:=
 c.congr (λ_ _ d _=>.refl (a.g d).symm) (λ_ _ id _=>a.h id) (λid _ _ _ _=>a.h id)
theorem mq.seq:∀{c:ab0} {d e f:aH},i6 d e->mq ic D G C c d f->mq ic D G C c e f
 |[],_,_,_,a,h=>a.symm.trans h
 |_::_,_,_,_,a,⟨b,g,i⟩=>⟨b,g.seq a,mq.seq (a.app b) i⟩
theorem mq.front {g:Nat} {h:ab0}:∀{b:ab0} {a d:aH},(∀x∈b,sj D G C x g=true)->mq ic D G C (b++g::h) a d->∃c,g2 ic D G C g a c/\mq ic D G C (b++h) (c.app a) d
 |[],a,d,_,⟨c,e,f⟩=>⟨c,e,f⟩
 |x::b,a,d,i,⟨k,e,f⟩=>by obtain⟨j,o,p⟩:=mq.front (λr q=>i r (by simp[q])) f;obtain⟨l,m,n⟩:=g2.swap (i x ac) e o;exact⟨j,l,k,m,p.seq n⟩
end
end
section
section
variable {ic:fG} {F:Array Oper} {G H:Nat->ab0}
theorem xD {E:Type} {B:aH->Option E} {D:E}:∀{z:ab0} {b:aH},qZ ic F G H z b B=some D->∃c,mq ic F G H z b c/\B c=some D
 |[],b,a=>⟨b,i6.refl b,a⟩
 |i::z,b,a=>by
  simp only[qZ] at a;split at a
  ·cases a
  rename_i s r;split at a
  ·rename_i o;obtain⟨f,v,w,x⟩:=ID a;obtain⟨c,k,l⟩:=xD x;exact⟨c,⟨f,⟨s,r,.inl ⟨by unfold ji;rw[o],v,w⟩⟩,k⟩,l⟩
  ·rename_i L A o;split at a
   case h_2=>cases a
   rename_i q e y C;split at a
   case h_3=>cases a
   case h_2=>
    rename_i M p;cases j:fM ic.n ic.pin e with
    |false=>rw[j] at a;cases a
    |true=>
    rw[j] at a;obtain⟨c,k,l⟩:=xD a;refine⟨c,⟨vC e,⟨s,r,.inr ⟨?_,e,C,j,rfl⟩⟩,k⟩,l⟩;unfold ji;rw[o];simp only[y,p]
   rename_i d p;cases j:fM ic.n ic.pin e with
   |false=>rw[j] at a;cases a
   |true=>
   rw[j] at a;simp only[cond_true] at a;have t:∀u,d=u->i6 ⟨(q,.val .bool u)::b.g,b.h⟩ b:=λu m=>⟨λK=>by
    show gt ((q,_)::b.g) K=_;rw[hz];split
    ·rename_i f;rw[<-f,p,m]
    ·rfl,λ_=>rfl⟩
   split at a
   ·rename_i m;obtain rfl:d=A:=(by simpa using m);obtain⟨f,v,w,x⟩:=ID a;obtain⟨c,k,l⟩:=xD x;have I:g2 ic F G H i ⟨(q,.val .bool d)::b.g,b.h⟩ f:=by
     refine⟨s,r,.inl ⟨?_,v,w⟩⟩;unfold ji;rw[o];simp only[y,(t d rfl).g q,p];simp
    exact⟨c,⟨f,I.seq (t d rfl),k.seq ((t d rfl).app f)⟩,l⟩
   ·rename_i m;have J:d=!A:=by cases d<;>cases A<;>first|rfl|cases m
    obtain⟨c,k,l⟩:=xD a;refine⟨c,⟨vC e,⟨s,r,.inr ⟨?_,e,C,j,rfl⟩⟩,k.seq ((t _ J).app (vC e))⟩,l⟩;unfold ji;rw[o];simp only[y,p];exact m
structure kc where
 i:Nat
 d:ab0
 al:ab0
 ps:ab0
 uT:ab0
 pL:ab0
def qR:ab0->ab0->Bool
 |[],[]=>true
 |a::c,b::d=>Nat.beq a b&&qR c d
 |_,_=>false
theorem n8:∀{c d:ab0},qR c d=true->c=d
 |[],[],_=>rfl
 |a::c,e::d,b=>by simp only[qR,bg] at b;rw[es b.1,n8 b.2]
 |[],_::_,b=>by cases b
 |_::_,[],b=>by cases b
def oz (F:Array Oper) (G H:Nat->ab0) (a:kc):Bool:=match F[a.i]? with
 |some b=>qR (dl b) a.d&&qR (b.looksAt F) a.al&&qR (ou F a.i) a.ps&&qR (G a.i) a.uT&&qR (H a.i) a.pL
 |none=>false
def Dp (a b:kc):Bool:=qL a.d b.al&&qL a.d b.d&&qL b.d a.al&&qM b.pL (a.d++(a.uT++a.pL))&&qM a.pL (b.d++b.uT)&&(pD a.d a.uT a.pL b.pL&&pD b.d b.uT b.pL a.pL)
theorem S7 {l j:kc} (b:oz F G H l=true) (a:oz F G H j=true) (d:Dp l j=true):sj F G H l.i j.i=true:=by
 unfold oz at b a;split at b
 case h_2=>cases b
 rename_i y s;split at a
 case h_2=>cases a
 rename_i x r;simp only[bg] at b a;obtain⟨⟨⟨⟨z,A⟩,E⟩,B⟩,C⟩:=b;obtain⟨⟨⟨⟨i1,t⟩,D⟩,u⟩,v⟩:=a;unfold Dp at d;rw[<-n8 z,<-n8 A,<-n8 B,<-n8 C,<-n8 i1,<-n8 t,<-n8 u,<-n8 v] at d;simp only[bg] at d;obtain⟨⟨⟨⟨⟨f,g⟩,h⟩,n⟩,o⟩,p,q⟩:=d;unfold sj;simp only[s,r,n,o,p,q,Bool.and_true];have f:=qL.ok f;have g:=qL.ok g;have h:=qL.ok h;unfold Oper.apart;rw[bg];constructor
 ·cases e:y.dst with
  |none=>rfl
  |some c=>
   have k:=f c (vb e);have w:=g c (vb e);simp only[bg,vL];refine⟨?_,?_⟩
   ·rw[<-Bool.not_eq_true,List.contains_iff_mem];exact k
   ·rw[bne_iff_ne];intro m;exact w (vb m)
 ·cases e:x.dst with
  |none=>rfl
  |some c=>
   have k:=h c (vb e);simp only[vL];rw[<-Bool.not_eq_true,List.contains_iff_mem];exact k
def jT (a b:Nat):Bool:=Nat.beq (Nat.land (Nat.shiftRight a b) 1) 1
def CZ (a b:Nat):Nat:=Nat.lor a (Nat.shiftLeft 1 b)
theorem uf:jT b l=true↔b.testBit l=true:=by
 unfold jT;rw[Nat.testBit_eq_decide_div_mod_eq];show Nat.beq ((b>>>l)&&&1) 1=true↔_;rw[Nat.shiftRight_eq_div_pow,Nat.and_one_is_mod];constructor
 ·intro a;exact decide_eq_true (es a)
 ·intro a;rw[of_decide_eq_true a];rfl
theorem HS (a:jT (Nat.lor l W) b=true):jT l b=true\/jT W b=true:=by rw[uf] at a|-;rw[uf];have:(l|||W).testBit b=true:=a;rw[Nat.testBit_or] at this;simpa using this
theorem HR (a:jT (CZ W l) b=true):jT W b=true\/b=l:=by
 rcases HS a with a|a
 ·exact .inl a
 ·right;rw[uf] at a;have:(1<<<l).testBit b=true:=a;rw[Nat.shiftLeft_eq,g0,yP] at this;have:=of_decide_eq_true this;omega
theorem y8 (a:jT 0 b=true):False:=by rw[uf] at a;simp at a
def wg (a:ab2):ab0->Nat
 |[]=>0
 |p::b=>Nat.lor (CZ ((hT.al a p).getD 0) p) (wg a b)
theorem Hn {e:ab2}:∀{d:ab0} {b:Nat},jT (wg e d) b=true->∃p∈d,b=p\/∃c,hT.al e p=some c/\jT c b=true
 |[],_,a=>(y8 a).elim
 |p::d,b,a=>by
  rcases HS a with a|a
  ·refine⟨p,ac,?_⟩;rcases HR a with a|a
   ·cases f:hT.al e p with
    |none=>rw[f] at a;exact(y8 a).elim
    |some c=>rw[f] at a;exact .inr ⟨c,rfl,a⟩
   ·exact .inl a
  ·obtain⟨i,h,g⟩:=Hn a;exact⟨i,by simp[h],g⟩
def zg (c:Nat):Nat->List kc->ab2->List kc->Bool
 |_,_,_,[]=>true
 |ev,d,b,a::f=>
  a.ps.all (λg=>jT ev g)&&(d.all λe=>jT (wg b a.ps) e.i||Dp e a)&&!(jT ev a.i)&&Nat.blt a.i c&&zg c (CZ ev a.i) (a::d) ((a.i,wg b a.ps)::b) f
def jD (a:List kc):ab0:=a.map (·.i)
def sg (F:Array Oper) (G H:Nat->ab0) (a:List kc):Bool:=a.all (oz F G H)&&zg F.size 0 [] [] a&&((List.range F.size).all λb=>dj b (jD a))&&Nat.ble a.length F.size
def yG (F:Array Oper) (a:Nat->Prop):Prop:=∀b,a b->∀c∈ou F b,a c
theorem oz.ps {b:kc} (a:oz F G H b=true):ou F b.i=b.ps:=by
 unfold oz at a;split at a
 case h_2=>cases a
 simp only[bg] at a;exact n8 a.1.1.2
theorem Dj:∀{t m:List kc} {o:Nat} {v:ab2},zg F.size o m v t=true->(∀r∈t,oz F G H r=true)->(∀r∈m,oz F G H r=true)->(∀l,jT o l=true->l∈jD m)->(∀l∈jD m,jT o l=true)->(∀e u,hT.al v e=some u->∀c,yG F c->c e->∀b,jT u b=true->c b)->∀g h p,jD t=g++h::p->(∀e∈ou F h,e∈jD m\/e∈g)/\(∀c,yG F c->(∀e∈ou F h,c e)->∀b,(b∈jD m\/b∈g)->¬c b->sj F G H b h=true)/\h∉jD m/\h∉g/\h<F.size
 |[],_,_,_,w,_,_,_,_,A,g,h,p,n=>by cases g<;>cases n
 |r::t,m,o,v,w,E,I,d,C,A,g,h,p,n=>by
  simp only[zg,bg,eM,vL] at w;obtain⟨⟨⟨⟨R,S⟩,q⟩,T⟩,U⟩:=w;have z:=E r ac;have y:=oz.ps z;have q:r.i∉jD m:=λk=>(by rw[C _ k] at q;cases q);have J:∀c,yG F c->(∀e∈ou F r.i,c e)->∀b,jT (wg v r.ps) b=true->c b:=by
   intro c j f b a;obtain⟨e,D,rfl|⟨W,V,a⟩⟩:=Hn a
   ·exact f _ (y▸D)
   ·exact A e W V c j (f e (y▸D)) b a
  cases g with
  |nil=>
   cases n;refine⟨λe f=>.inl (d _ (R e (y▸f))),λc j f b a x=>?_,q,ac,eT T⟩;rcases a with a|a
   ·obtain⟨L,K,rfl⟩:=bT.1 a;have:=S L K;rcases fy _ _▸this with d|d
    ·exact absurd (J c j f _ d) x
    ·exact S7 (I L K) z d
   ·cases a
  |cons X g=>
   simp only[jD,er,jm,fY] at n;obtain⟨rfl,n⟩:=n;obtain⟨N,O,B,P,Q⟩:=Dj U (λb a=>E b (by simp[a])) (λb a=>by
    rcases dh.1 a with rfl|a
    ·exact z
    ·exact I b a) (λl k=>by
    rcases HR k with k|rfl
    ·exact e0 _ (d l k)
    ·exact iH ..) (λl k=>by
    rw[uf];show(o|||(1<<<r.i)).testBit l=true;rw[Nat.testBit_or,fy];rcases dh.1 k with rfl|k
    ·right;rw[Nat.shiftLeft_eq,g0,yP];simp
    ·left;exact uf.1 (C l k)) (λe u s c j f b a=>by
    rw[bY] at s;split at s
    ·rename_i M;cases s;subst M;exact J c j (j _ f) b a
    ·exact A e u s c j f b a) g h p n
   refine⟨λe f=>?_,λc j f b a x=>O c j f b ?_ x,λd=>B (e0 _ d),λd=>?_,Q⟩
   ·rcases N e f with d|d
    ·rcases dh.1 d with rfl|d
     ·exact .inr ac
     ·exact .inl d
    ·exact .inr (by simp[d])
   ·rcases a with a|a
    ·exact .inl (e0 _ a)
    ·rcases dh.1 a with rfl|a
     ·exact .inl (iH ..)
     ·exact .inr a
   ·rcases dh.1 d with rfl|d
    ·exact B (iH ..)
    ·exact P d
variable {E:dY} {C:dA}
theorem g2.wp (k:ic.ae E C) (e:g2 ic F G H b i p) {c:Act} (j:ff C i c.tmps v) {next:Act->World->Prop} (l:∀a d,a.defers=c.defers->ff C (p.app i) a.tmps d->next a d):wpOp E.P F o b next c v:=by
 obtain⟨z,s,e⟩:=e;obtain⟨m,w,n,f⟩:=id j;unfold wpOp;simp only[s];rcases e with⟨h,q,_⟩|⟨h,x,g,u,rfl⟩
 ·rw[h.ok f,if_pos rfl];refine .inl (IC k q c v j _ _ ?_);rintro A a d ⟨y,r,rfl⟩ g t;cases r;exact l a d g t
 ·rw[h.ok f,if_neg ac,g];exact l _ v rfl ⟨m,w,n,f.put (fM.ok k u) (.cv undef)⟩
def left (a:ab0) (c:Array Bool):ab0:=a.filter λb=>!c.getD b true
theorem JX {d:Array Bool} {e:ab0} (g:left f d=A++b::e) (h:b∉A) (i:b∉e) (j:b<d.size):left f (d.setIfInBounds b true)=A++e:=by
 have:left f (d.setIfInBounds b true)=(left f d).filter λc=>!(c==b):=by
  unfold left;rw[List.filter_filter];refine rT λc _=>?_;by_cases a:b=c
  ·subst a;have:(d.setIfInBounds b true).getD b true=true:=(by simp[Array.getD,j]);rw[this];simp
  ·rw[getD_set_ne true a];have:(c==b)=false:=(by simp;omega);rw[this];simp
 rw[this,g,iX,oW ac];congr 1
 ·exact mm.2 λc a=>by simp;rintro rfl;exact h a
 ·exact mm.2 λc a=>by simp;rintro rfl;exact i a
theorem FJ (f:F[b]?=some h):l∈ou F b↔∃a∈h.after,Region.binds .any a=true/\a.on=l:=by
 unfold ou;rw[f];simp only[bT,fc,Array.mem_toList_iff];constructor
 ·rintro⟨a,⟨c,d⟩,e⟩;exact⟨a,c,d,e⟩
 ·rintro⟨a,c,d,e⟩;exact⟨a,⟨c,d⟩,e⟩
theorem RW (em:ic.ae E C) {ad:List kc} (d8:f=jD ad) (B:sg F G H ad=true) {t:aH} {ds:List Deferred} (a0:∀e j,e.defers=ds->ff C t e.tmps j->o .normal e j):∀(y:Nat) (a:Array Bool) (e:Act) (j:World) (M:aH),a.size=F.size->(left f a).length<=y->yG F (λd=>a.getD d true=true/\d<F.size)->mq ic F G H (left f a) M t->ff C M e.tmps j->e.defers=ds->wpAny E.P .any F o y a e j:=by
 unfold sg at B;simp only[bg,eM,fd] at B;obtain⟨⟨⟨fp,B⟩,a3⟩,_⟩:=B;have N:=Dj B fp ac (λd bd=>(y8 bd).elim) (by simp[jD]) (λS f3 b=>by cases b);rw[<-d8] at N a3;have ab:∀i,i<F.size->i∈f:=λi I=>ep.1 (a3 i I);have d4:∀{a:Array Bool} {d:Nat},a.size=F.size->d<F.size->a.getD d true=true->a.getD d false=true:=(by intro a d g bd b;have:d<a.size:=U;simpa[Array.getD,this] using b);have co:∀{a:Array Bool} {i:Nat},a.size=F.size->i∈Region.ready .any F a->i<F.size/\a.getD i true=false/\∃h,F[i]?=some h/\∀c∈h.after,Region.binds .any c=true->a.getD c.on false=true:=(by intro a i g I;obtain⟨u,h,l,n⟩:=mem_ready.1 I;exact⟨(md.1 l).1,u,h,l,n⟩);have first:∀{a:Array Bool} {i:Nat} {V:ab0},a.size=F.size->left f a=i::V->i∈Region.ready .any F a:=by
  intro a i V g J;have L:i∈left f a:=(by rw[J];simp);have el:i∈f:=(fc.1 L).1;have ft:a.getD i true=false:=(by simpa using(fc.1 L).2);obtain⟨k,s,p⟩:=vW el;obtain⟨d1,_,_,z,d3⟩:=N k i s p;obtain⟨h,l⟩:∃h,F[i]?=some h:=⟨_,vJ d3⟩;refine mem_ready.2 ⟨ft,h,l,λc q D=>?_⟩;have w:c.on∈ou F i:=(FJ l).2 ⟨c,q,D,rfl⟩;have ap:c.on∈k:=by
   rcases d1 _ w with b|b
   ·cases b
   ·exact b
  have fn:∀m∈k,a.getD m true=true:=by
   intro m x;cases fz:a.getD m true with
   |true=>rfl
   |false=>
    obtain⟨T,cv,av⟩:=vW x;have:left f a=left T a++m::(left cv a++left (i::s) a):=(by show List.filter _ f=_;rw[p,av];simp only[left,iX,iD,fz,oT,jm];rfl);rw[J] at this;cases W:left T a with
    |nil=>rw[W] at this;cases this;exact absurd x z
    |cons f4 f1=>
     rw[W] at this;cases this;have:i∈left T a:=(by rw[W];simp);exact absurd (by rw[av];exact m7 _ (fc.1 this).1) z
  have K:c.on<F.size:=(by have:c.on∈f:=(by rw[p];exact m7 _ ap);obtain⟨cs,c1,d5⟩:=vW this;exact(N cs c.on c1 d5).2.2.2.2);exact d4 g K (fn _ ap)
 intro y
 induction y with
 |zero=>
  intro a e j M g Y X r O Q;have bB:left f a=[]:=CN.1 U;rw[bB] at r;refine⟨?_,a0 e j Q (O.seq r)⟩;cases Z:Region.ready .any F a with
  |nil=>rfl
  |cons i f1=>
   obtain⟨u,n,_⟩:=co g (i:=i) (by rw[Z];simp);have:i∈left f a:=fc.2 ⟨ab i u,by rw[n];rfl⟩;rw[bB] at this;cases this
 |succ y f0=>
  intro a e j M g Y X r O Q;constructor
  ·intro Z;cases J:left f a with
   |nil=>rw[J] at r;exact a0 e j Q (O.seq r)
   |cons i V=>
    have:=first g J
    rw[Z] at this;cases this
  ·intro i I;obtain⟨u,n,h,l,an⟩:=co g I;have L:i∈left f a:=fc.2 ⟨ab i u,by rw[n];rfl⟩;obtain⟨k,s,p⟩:=vW (ab i u);obtain⟨_,d2,_,z,_⟩:=N k i s p;have a4:i∉s:=by
    intro L;obtain⟨c2,dl,d7⟩:=vW L;have:=(N (k++i::c2) i dl (by rw[p,d7];simp)).2.2.2.1;exact this ac
   have R:left f a=left k a++i::left s a:=(by show List.filter _ f=_;rw[p];simp only[left,iX,iD,n];rfl);have ed:∀m∈left k a,sj F G H m i=true:=by
    intro m x;obtain⟨fT,ci⟩:=fc.1 x;refine d2 _ X (λS w=>?_) m (.inr fT) (λx=>by rw[x.1] at ci;cases ci);obtain⟨c,q,D,rfl⟩:=(FJ l).1 w;have A:=an c q D;have K:c.on<a.size:=by
     cases bb c.on a.size with
     |inl b=>exact b
     |inr b=>simp[Array.getD,Nat.not_lt.2 b] at A
    refine⟨?_,U⟩;simpa[Array.getD,K] using A
   rw[R] at r;obtain⟨c,q,fs⟩:=mq.front ed r;refine q.wp em O (λd0 f2 ek d9=>f0 _ d0 f2 (c.app M) (by simp[g]) ?_ ?_ ?_ d9 (ek.trans Q))
   ·rw[JX R (λb=>z (fc.1 b).1) (λb=>a4 (fc.1 b).1) U];rw[R] at Y;simp at Y|-;omega
   ·intro d ⟨bl,eq⟩ S w;by_cases bs:i=d
    ·subst bs;obtain⟨c,q,D,rfl⟩:=(FJ l).1 w;have A:=an c q D;have K:c.on<a.size:=by
      cases bb c.on a.size with
      |inl b=>exact b
      |inr b=>simp[Array.getD,Nat.not_lt.2 b] at A
     have v:=getD_set_true (i:=i) A;refine⟨?_,U⟩;have ex:c.on<(a.setIfInBounds i true).size:=(by simpa using K);have aj:∀am,(a.setIfInBounds i true).getD c.on am=(a.setIfInBounds i true)[c.on]:=λam=>(by simp only[Array.getD,ex,dif_pos];rfl);rw[aj] at v|-;exact v
    ·rw[getD_set_ne true bs] at bl;obtain⟨v,d6⟩:=X d ⟨bl,eq⟩ S w;refine⟨?_,d6⟩;by_cases ce:i=S
     ·subst ce;rw[n] at v;cases v
     ·rw[getD_set_ne true ce];exact v
   ·rw[JX R (λb=>z (fc.1 b).1) (λb=>a4 (fc.1 b).1) U];exact fs
theorem J.draw (K:E.P.follows .mixedOrders=true) (A:ic.ae E C) {g:aH->Option a} {k:a} {id:Nat} {c:List kc} {h:Exit->aH->Prop} (b:sg F G H c=true) (e:qZ ic F G H (jD c) i g=some k) (v:∀l,g l=some k->h .normal l):J E C (.region id F true) i h:=by
 obtain⟨d,r,s⟩:=xD e;intro p Q f x;refine wp_region_any K ?_;have j:left (jD c) (Array.replicate F.size false)=jD c:=(by refine mm.2 λM z=>?_;unfold sg at b;simp only[bg,eM] at b;obtain⟨m,n,u⟩:=vW z;have:=(Dj b.1.1.2 b.1.1.1 ac (λN B=>(y8 B).elim) (by simp[jD]) (λS T e=>by cases e) m M n u).2.2.2.2;simp[Array.getD,this]);have L:(jD c).length<=F.size:=(by unfold sg at b;simp only[bg] at b;rw[jD,gw];exact eT b.2);refine RW A rfl b (t:=d) (ds:=[]) (λR U y w=>⟨d,v d s,w,y⟩) F.size _ p _ i ac (by rw[j];exact L) ?_ (by rw[j];exact r) ?_ x
 ·intro N ⟨D,I⟩;simp[Array.getD,I] at D
 ·obtain⟨o,O,q,f⟩:=f;exact⟨o,O,q,f.UL (gH.refl Q).drew⟩
end
end
section
inductive GQ where
 |none
 |x (l:ab0) (yq:mr)
 |bw (l:ab0) (yq:mr)
inductive GS where
 |r
 |x (id:Nat) (yq:mr)
 |bw (id:Nat) (yq:mr)
inductive kX where
 |leaf
 |one (a:kX)
 |two (j:GQ) (a b:kX)
 |loop (yq:mr) (m:GS) (a:kX)
 |keep (l:ab0) (a:kX)
 |nq (F:ab0) (a:kX)
 |draw (L:List kc)
def Bi:List kc->Nat->ab0
 |[],_=>[]
 |r::b,a=>bif Nat.beq r.i a then r.uT else Bi b a
def BH:List kc->Nat->ab0
 |[],_=>[]
 |r::b,a=>bif Nat.beq r.i a then r.pL else BH b a
def HZ {A:Type} (id:Nat) (b:Exit->aH->Option A):Exit->aH->Option A
 |.exit c,a=>match Nat.beq c id with
  |true=>b .normal a
  |false=>b (.exit c) a
 |e,a=>b e a
def Va {a:Type} (c:aH->Option a):Exit->aH->Option a
 |.normal,b=>c b
 |_,_=>none
def Vb {b A:Type} (d:aH->Option b) (c:Exit->aH->Option A):Exit->aH->Option (b⊕A)
 |.normal,a=>(d a).map .inl
 |e,a=>(c e a).map .inr
def ym {A:Type} (c:aH->Option A) (b:Exit->aH->Option A):Exit->aH->Option A
 |.normal,a=>c a
 |e,a=>b e a
def VL {b A:Type} (d:aH->Option b) (c:Exit->aH->Option A):Exit->aH->Option (b⊕A)
 |.normal,a=>(d a).map .inl
 |e,a=>(c e a).map .inr
def J6 {b c:Type} (e:aH->Option b) (id:Nat) (f:aH->Option c):Exit->aH->Option (b⊕c)
 |.normal,a=>(e a).map .inl
 |.exit d,a=>match Nat.beq d id with
  |true=>(f a).map .inr
  |false=>none
 |_,_=>none
def J7 {f g A:Type} (h:aH->Option f) (id:Nat) (i:aH->Option g) (c:Exit->aH->Option A):Exit->aH->Option (f⊕(g⊕A))
 |.normal,a=>(h a).map .inl
 |.exit d,a=>match Nat.beq d id with
  |true=>(i a).map λb=>.inr (.inl b)
  |false=>(c (.exit d) a).map λb=>.inr (.inr b)
 |e,a=>(c e a).map λb=>.inr (.inr b)
def gL:fG->kX->Code->aH->(A:Type)->(Exit->aH->Option A)->Option A
 |ic,.leaf,e,b,_,a=>match e with
  |.skip=>a .normal b
  |.exit id=>a (.exit id) b
  |.ret=>a .ret b
  |.region _ o false=>jC ic o (List.range o.size) b (a .normal)
  |_=>none
 |ic,.one d,e,b,A,a=>match e with
  |.block id i=>gL ic d i b A (HZ id a)
  |_=>none
 |ic,.two u d q,e,b,A,a=>match e with
  |.seq i p=>match u with
   |.none=>gL ic d i b A (ym (λl=>gL ic q p l A a) a)
   |.x j c=>match q0 b.g j with
    |some f=>(gL {ic with pin:=j++ic.pin,kg:=f++ic.kg} d i b c.den (Va (proj c))).bind λk=>gL ic q p (sG {ic with pin:=j++ic.pin,kg:=f++ic.kg} c k) A a
    |none=>none
   |.bw j c=>match q0 b.g j with
    |some f=>(gL {ic with pin:=j++ic.pin,kg:=f++ic.kg} d i b (c.den⊕A) (Vb (proj c) a)).bind λ
     |.inl k=>gL ic q p (sG {ic with pin:=j++ic.pin,kg:=f++ic.kg} c k) A a
     |.inr f=>some f
    |none=>none
  |.cond w i p=>match aO b.g w with
   |.val .bool y=>match y with
    |true=>gL ic d i b A a
    |false=>gL ic q p b A a
   |_=>none
  |_=>none
 |ic,.loop c v d,e,b,A,a=>match e with
  |.loop i=>(proj c b).bind λs=>match v with
   |.r=>(loop (λl=>gL ic d i (sG ic c l) (c.den⊕A) (VL (proj c) a)) s).bind some
   |.x id m=>(loop (λl=>gL ic d i (sG ic c l) (c.den⊕m.den) (J6 (proj c) id (proj m))) s).bind λk=>a (.exit id) (sG ic m k)
   |.bw id m=>(loop (λl=>gL ic d i (sG ic c l) (c.den⊕(m.den⊕A)) (J7 (proj c) id (proj m) a)) s).bind λ
    |.inl k=>a (.exit id) (sG ic m k)
    |.inr f=>some f
  |_=>none
 |ic,.draw n,e,b,_,a=>match e with
  |.region _ o true=>bif sg o (Bi n) (BH n) n then qZ ic o (Bi n) (BH n) (jD n) b (a .normal) else none
  |_=>none
 |ic,.nq t d,e,b,A,a=>bif lR b.h t then gL ic d e (qW t b) A a else none
 |ic,.keep j d,e,b,A,a=>match q0 b.g j with
  |some f=>gL {ic with pin:=j++ic.pin,kg:=f++ic.kg} d e b A a
  |none=>none
section
variable {E:dY} {C:dA} {ic:fG} {A:Type}
theorem J.post (t:nN C D) {f:Code} {d:Exit->aH->Prop} (n:J E C f i (λj c=>d j c\/∃(e a:aH),d j e/\e=⟨D++a.g,a.h⟩/\nh a.g c/\ni a.h c/\kM a.g a.h=true)):J E C f i d:=
 λm u r s=>wp_mono (n m u r s) (λ_ _ _ ⟨c,b,k,l⟩=>by
  rcases b with b|⟨e,a,b,rfl,o,p,q⟩
  ·exact⟨c,b,k,l⟩
  ·exact⟨_,b,(k.wx o p q).kg t,l⟩)
theorem kK:∀{U:kX} {C:dA} {ic:fG} {n:Code} {k:aH} {A:Type} {l:Exit->aH->Option A} {r:A} {m:Exit->aH->Prop},ic.ae E C->gL ic U n k A l=some r->(∀e i,l e i=some r->m e i)->J E C n k m
 |.leaf,C,ic,n,k,A,l,r,m,b,a,d=>by
  simp only[gL] at a;split at a
  ·exact J.skip (d _ _ a)
  ·exact J.exit (d _ _ a)
  ·exact J.ret (d _ _ a)
  ·exact J.region (UZ b (λi c=>d _ i c) a)
  ·cases a
 |.one F,C,ic,n,k,A,l,r,m,b,a,d=>by
  simp only[gL] at a;split at a
  ·refine J.block (kK b a ?_);intro e i c;cases e with
   |exit K=>
    simp only[HZ] at c;simp only[Df];split at c
    ·rename_i q;rw[q];exact d _ _ c
    ·rename_i q;rw[q];exact d _ _ c
   |_=>exact d _ _ c
  ·cases a
 |.two K F av,C,ic,n,k,A,l,r,m,b,a,d=>by
  simp only[gL] at a;split at a
  ·rename_i x an;refine J.seq ?_;split at a
   ·refine kK b a ?_;intro e i c;cases e with
    |normal=>exact kK b c d
    |_=>exact d _ _ c
   ·rename_i B D;split at a
    case h_2=>cases a
    rename_i O I;obtain⟨j,z,a⟩:=c9.1 a;refine J.keep b.2.2.2.2 I (λP t u o v w=>J.post o (kK (ic:={ic with pin:=B++ic.pin,kg:=O++ic.kg}) ⟨b.1,b.2.1.trans t.symm,by rw[u,<-b.2.2.1],⟨b.2.2.2.1.1,v _ b.2.2.2.1.2.1,b.2.2.2.1.2.2.1,w b.2.2.2.1.2.2.2.1,b.2.2.2.1.2.2.2.2⟩,o⟩ z ?_));intro e i c;cases e with
    |normal=>exact .inr ⟨_,_,kK b a d,rfl,ru c⟩
    |_=>cases c
   ·rename_i B D;split at a
    case h_2=>cases a
    rename_i O I;obtain⟨j,z,a⟩:=c9.1 a;refine J.keep b.2.2.2.2 I (λP t u o v w=>J.post o (kK (ic:={ic with pin:=B++ic.pin,kg:=O++ic.kg}) ⟨b.1,b.2.1.trans t.symm,by rw[u,<-b.2.2.1],⟨b.2.2.2.1.1,v _ b.2.2.2.1.2.1,b.2.2.2.1.2.2.1,w b.2.2.2.1.2.2.2.1,b.2.2.2.1.2.2.2.2⟩,o⟩ z ?_));intro e i c;cases e with
    |normal=>
     obtain⟨ab,g,f⟩:=eb.1 c;cases f;exact .inr ⟨_,_,kK b a d,rfl,ru g⟩
    |_=>
     obtain⟨ab,g,f⟩:=eb.1 c;cases f;cases a;exact .inl (d _ _ g)
  ·rename_i bd x an;split at a
   ·rename_i bl X;refine J.cond X (λe=>?_) (λe=>?_)
    ·subst e;exact kK b a d
    ·subst e;exact kK b a d
   ·cases a
  ·cases a
 |.loop D Y F,C,ic,n,k,A,l,r,m,b,a,d=>by
  simp only[gL] at a;split at a
  case h_2=>cases a
  rename_i x;obtain⟨a4,V,a⟩:=c9.1 a;obtain⟨L,M,N⟩:=ru V;refine J.post b.2.2.2.2 ?_;cases Y with
  |r=>
   refine J.loop (jy D) a L M N ?_;intro i Q y s;refine J.kg b.2.2.2.2 (kK b y ?_);intro e R c;cases e with
   |normal=>
    obtain⟨j,g,f⟩:=eb.1 c;cases f;exact⟨rfl,ru g⟩
   |_=>
    obtain⟨j,g,f⟩:=eb.1 c;cases f;cases s;exact⟨(λa=>by cases a),.inl (d _ _ g)⟩
  |x id am=>
   refine J.loop (jy D) a L M N ?_;intro i Q y s;refine J.kg b.2.2.2.2 (kK b y ?_);intro e R c;cases e with
   |normal=>
    obtain⟨j,g,f⟩:=eb.1 c;cases f;exact⟨rfl,ru g⟩
   |exit K=>
    simp only[J6] at c;split at c
    ·rename_i q;obtain rfl:=es q;obtain⟨j,g,f⟩:=eb.1 c;cases f;exact⟨(λa=>by cases a),.inr ⟨_,_,d _ _ s,rfl,ru g⟩⟩
    ·cases c
   |_=>cases c
  |bw id am=>
   refine J.loop (jy D) a L M N ?_;intro i Q y s;refine J.kg b.2.2.2.2 (kK b y ?_);intro e R c;cases e with
   |normal=>
    obtain⟨j,g,f⟩:=eb.1 c;cases f;exact⟨rfl,ru g⟩
   |exit K=>
    simp only[J7] at c;split at c
    ·rename_i q;obtain rfl:=es q;obtain⟨j,g,f⟩:=eb.1 c;cases f;exact⟨(λa=>by cases a),.inr ⟨_,_,d _ _ s,rfl,ru g⟩⟩
    ·obtain⟨j,g,f⟩:=eb.1 c;cases f;cases s;exact⟨(λa=>by cases a),.inl (d _ _ g)⟩
   |_=>
    obtain⟨j,g,f⟩:=eb.1 c;cases f;cases s;exact⟨(λa=>by cases a),.inl (d _ _ g)⟩
 |.draw G,C,ic,n,k,A,l,r,m,b,a,d=>by
  simp only[gL] at a;split at a
  case h_2=>cases a
  rename_i id Z;cases p:sg Z (Bi G) (BH G) G with
  |false=>rw[p] at a;cases a
  |true=>
  rw[p] at a;exact J.draw E.mix b p a (λi c=>d _ i c)
 |.nq S F,C,ic,n,k,A,l,r,m,b,a,d=>by
  simp only[gL] at a;cases p:lR k.h S with
  |false=>rw[p] at a;cases a
  |true=>
  rw[p] at a;intro T ad H W;obtain⟨ap,a3,a0,H⟩:=H;exact kK b a d T ad (H.freeze (lR.ok p)) W
 |.keep B F,C,ic,n,k,A,l,r,m,b,a,d=>by
  simp only[gL] at a;split at a
  case h_2=>cases a
  rename_i j z;refine J.keep b.2.2.2.2 z ?_;intro P t u o v w;exact kK (ic:={ic with pin:=B++ic.pin,kg:=j++ic.kg}) ⟨b.1,b.2.1.trans t.symm,by rw[u,<-b.2.2.1],⟨b.2.2.2.1.1,v _ b.2.2.2.1.2.1,b.2.2.2.1.2.2.1,w b.2.2.2.1.2.2.2.1,b.2.2.2.1.2.2.2.2⟩,o⟩ a d
end
end
end Go.hT
end
