/-
  Parts of the proof: Fw21: the framework (Fw), pure forms (Dn), plain laws (Pl, Th), calls of functions (Ok).
-/
import Derived.Test.YtkhcdgkdpjahpaaGreatDoorB8d9d60a4

set_option linter.all false
set_option maxHeartbeats 1000000
noncomputable section
namespace Go.h2
section
def mb (d:Nat) (st:aQ) (c:List ao) (b:List gh) (a:List aH):Bool:=
 h9 (eM c b)&&h9 ((iI c b++hO d (hq a) 0 a).map (·.1))&&(hO d (hq a) 0 a).all λe=>(au st.h e.1).isNone
section
variable {E:eh} {C:dD} {st:aQ} {a:Act} {w w':World} {I I' B':Nat->Prop} {rt:Nat->adY} {fp:Nat->ad4}
def KX {rt:Nat->adY} {n:ad4} {b:List (Nat×aH)}:∀{as:List ao} {bs:List gh} {gs:adT},nl b n as bs->gs.length=bs.length->∀id∈lc as bs,∃c∈fo rt as bs gs,c.1=id/\au b id=some ⟨c.2.1.1,(match au b id with|some k=>if f:k.1=c.2.1.1 then f▸k.2 else c.2.1.2|none=>c.2.1.2)⟩
 |[],bs,gs,_,_,id,b=>by cases bs<;>cases b
 |a::as,[],gs,g,_,id,b=>by cases a<;>exact g.elim
 |a::as,e::bs,[],_,h,id,b=>by cases h
 |a::as,e::bs,p::gs,g,h,id,b=>by
  have d:=KX (rt:=rt) (as:=as) (bs:=bs) (gs:=gs) g.2 (by simpa using h) id;have l:=g.1;cases a with
  |ref o j=>cases j with
   |nil=>
    cases e with
    |m k u=>
     simp only[lc,dx] at b;simp only[fo];rcases b with rfl|b
     ·refine⟨_,jB ..,rfl,?_⟩;rw[l.1];simp
     obtain⟨c,i,f⟩:=d b;exact⟨c,fk _ i,f⟩
    |_=>exact d b
   |cons=>cases e<;>exact d b
  |view o j r f=>cases j with
   |nil=>
    cases e with
    |w x t s q v=>
     simp only[lc,dx] at b;simp only[fo];rcases b with rfl|b
     ·refine⟨_,jB ..,rfl,?_⟩;rw[l.1];simp
     obtain⟨c,i,f⟩:=d b;exact⟨c,fk _ i,f⟩
    |_=>exact d b
   |cons=>cases e<;>exact d b
  |_=>cases e<;>exact d b
def Eo {e f g:Type} {h:e->f->g->Prop}:∀{as:List e} {c:List f} {d:List g},kZ h as c d->c.length=as.length/\d.length=as.length
 |[],c,d,b=>by cases c<;>cases d<;>first|exact⟨rfl,rfl⟩|exact b.elim
 |a::as,[],d,b=>b.elim
 |a::as,i::c,[],b=>b.elim
 |a::as,i::c,l::d,b=>by obtain⟨j,k⟩:=Eo b.2;simp[j,k]
def UT {b:List (Nat×wZ)} (j:((b.map λc=>c.2.2.2).flatten).Nodup):(∀c∈b,c.2.2.2.Nodup)/\∀e f g h,au b e=some g->au b f=some h->e≠f->∀a∈g.2.2,a∉h.2.2:=by
 induction b with
 |nil=>exact⟨ac,λe f g h j=>by cases j⟩
 |cons t b A=>
  obtain⟨B,t⟩:=t;simp only[fr,j3,iq] at j;obtain⟨v,w,q⟩:=j;obtain⟨i1,z⟩:=A w;refine⟨λc n=>?_,λe f g h i d r a l=>?_⟩
  ·rcases dx.1 n with rfl|n
   ·exact v
   exact i1 c n
  rw[b1] at i d;have s:∀o k,au b o=some k->∀p∈k.2.2,p∈(b.map λc=>c.2.2.2).flatten:=λo k y p x=>je.2 ⟨_,de.2 ⟨(o,k),yF y,rfl⟩,x⟩;split at i
  ·rename_i al;split at d
   ·rename_i u;exact absurd (al.symm.trans u) r
   obtain rfl:=ee i;intro m;exact q a l a (s f h d a m) rfl
  split at d
  ·obtain rfl:=ee d;intro m;exact q a m a (s e g i a l) rfl
  exact z e f g h i d r a l
def CE {e:Type}:∀{c:List (Nat×e)},(c.map (·.1)).Nodup->∀{b:Nat×e},b∈c->au c b.1=some b.2
 |[],_,b,a=>by cases a
 |(k,x)::c,d,b,a=>by
  simp only[fr,jC] at d;rw[b1];rcases dx.1 a with rfl|a
  ·rw[ai rfl]
  rw[ah (λf=>d.1 (by rw[f];exact de.2 ⟨b,a,rfl⟩))];exact CE d.2 a
def Nw {e:Nat} {g:Bool}:∀{j:Nat} {f:List aH} {a:Nat} {d:ao},(r4 e g j f)[a]?=some d->∃c,f[a]?=some c/\d=(bif c.1.pure then .val c.1 c.2 else .ref (qs e g (j+a)) [])
 |j,[],a,d,b=>by simp[r4] at b
 |j,c::l,a,d,b=>by
  simp only[r4] at b;cases a with
  |zero=>simp only[j4,bS] at b;exact⟨c,rfl,b.symm⟩
  |succ a=>
   obtain⟨k,h,i⟩:=Nw (by simpa using b);exact⟨k,by simpa using h,by rw[i,(U:j+1+a=j+(a+1))]⟩
def Nx {b:Nat} {c:Bool}:∀{j:Nat} {a:List aH},(r4 b c j a).length=a.length
 |j,[]=>rfl
 |j,e::d=>by simp[r4,Nx]
def NC {d:Nat} {s:Bool}:∀{j:Nat} {res:List aH} {cs:c8} {hs:adT},cs.length=res.length->hs.length=res.length->∀(a:Nat) b c e,res[a]?=some b->cs[a]?=some c->hs[a]?=some e->b.1.pure=false->(qs d s (j+a),(b,c,e))∈jV d s j res cs hs
 |j,[],cs,hs,_,_,a,b,c,e,al,_,_,_=>by simp at al
 |j,b::k,[],hs,h,_,_,_,_,_,_,_,_,_=>by cases h
 |j,b::k,c::cs,[],_,i,_,_,_,_,_,_,_,_=>by cases i
 |j,b::k,c::cs,e::hs,h,i,a,o,m,n,al,f,g,l=>by
  simp only[jV];cases a with
  |zero=>
   simp only[j4,bS] at al f g;subst al;subst f;subst g;rw[l];exact jB ..
  |succ a=>
   have:=NC (d:=d) (s:=s) (j:=j+1) (res:=k) (cs:=cs) (hs:=hs) (by simpa using h) (by simpa using i) a o m n (by simpa using al) (by simpa using f) (by simpa using g) l;rw[(U:j+1+a=j+(a+1))] at this;cases b.1.pure
   ·exact fk _ this
   exact this
end
section
variable {E:eh} {C:dD} {st:aQ} {A:Array Oper} {Q:aQ->Prop}
def Ox {i:List (Nat×aH)} {j:ad4}:∀{as:List ao} {bs:List gh},nl i j as bs->∀id∈eM as bs,∃h,au i id=some h
 |[],bs,_,id,b=>by cases bs<;>cases b
 |a::as,[],e,id,b=>by cases a<;>exact e.elim
 |a::as,d::bs,e,id,b=>by
  have c:=Ox (as:=as) (bs:=bs) e.2 id;have f:=e.1;cases a with
  |ref k g=>cases g with
   |nil=>
    cases d with
    |m h s=>
     simp only[eM,dx] at b;rcases b with rfl|b
     ·exact⟨_,f.1⟩
     exact c b
    |o h=>
     simp only[eM,dx] at b;rcases b with rfl|b
     ·exact⟨_,f⟩
     exact c b
    |_=>exact c b
   |cons=>cases d<;>exact c b
  |view k g p l=>cases g with
   |nil=>
    cases d with
    |w u r q n t=>
     simp only[eM,dx] at b;rcases b with rfl|b
     ·exact⟨_,f.1⟩
     exact c b
    |_=>exact c b
   |cons=>cases d<;>exact c b
  |_=>cases d<;>exact c b
def Gz {t:adW} {w:World} {I:Nat->Prop} {rt:Nat->adY} {fp:Nat->ad4} (e:bC C st t w I rt fp):∀{a:ad4},(∀id∈a,∃b,au st.h id=some b)->a.Nodup->((a.map fp).flatten).Nodup
 |[],_,_=>by simp
 |id::a,d,f=>by rw[jC] at f;simp only[fr,j3,iq];obtain⟨b,i⟩:=d id ac;refine⟨(e.tree id b i).2.1,Gz e (λr p=>d r (by simp[p])) f.2,λk n u o c=>?_⟩;subst c;obtain⟨v,l,m⟩:=je.1 o;obtain⟨j,g,rfl⟩:=de.1 l;obtain⟨s,q⟩:=d j (by simp[g]);exact e.dis id j b s i q (λc=>f.1 (c▸g)) k n m
def PQ (e:dg->Nat->Prop) (w:World) (c:Nat) (b:List aH) (f:Nat->adY) (g:Value):Prop:=
 ∀(d:List (Nat×aH)) (rt:Nat->adY) (fp:Nat->ad4),(∀a∈hO c (hq b) 0 b,au d a.1=some a.2/\rt a.1=f a.1)->bL e w d rt fp (uk c b) g
def bC.glob {E:eh} {C:dD} {st:aQ} {f:adW} {w:World} {I:Nat->Prop} {rt:Nat->adY} {fp:Nat->ad4} (b:bC C st f w I rt fp) (d:∀a,C.I0 a\/C.B a->a<C.w0.heap.size/\¬C.F0 a) (e:j2 E C.I0 C.w0):j2 E I w:=
 e.mono b.i0 λa c=>b.frame a (d a (.inl c)).1 (d a (.inl c)).2
def bC.call {C:dD} {st:aQ} {i1:adW} {w:World} {I:Nat->Prop} {rt:Nat->adY} {fp:Nat->ad4} (J:bC C st i1 w I rt fp) {o c2:Nat} {q:List ao} {an:adY} (d3:hl (bL (bj I C.B) w st.h rt fp) q an) {m:List gh} {k:List aH} (f8:qD E c2 m k) (ap:nl st.h (eM q m) q m) (W:mb o st q m k=true) (hv:∀N:adT,(∀e∈N.flatten,∃id c,au st.h id=some c/\e∈fp id)->Io w an N (nZ 0 m)) (f1:j2 E I w):Calls E.P c2 an.toArray w (λQ w'=>∃I' H G v,Q=.returned (o7 v)/\l5 C st w w' I I' rt fp (eM q m) (vR (lc q m)) (iI q m++hO o (hq k) 0 k) H G/\PQ (bj I' C.B) w' o k H (o7 v)):=by
 simp only[mb,bp,fd] at W;obtain⟨⟨ce,ci⟩,gv⟩:=W;have ce:=h9.ok ce;have ci:=h9.ok ci
 let D:=eM q m
 let B':Nat->Prop:=λe=>C.B e\/∃id c,au st.h id=some c/\du id D=false/\e∈fp id
 have fT:∀e,C.B e->B' e:=λe f=>.inl f;have f0:∀id c,au st.h id=some c->du id D=false->∀e∈fp id,B' e:=λid c r l e f=>.inr ⟨id,c,r,l,f⟩;obtain⟨N,gi,d5⟩:=I2 J (B':=B') (S:=D) fT f0 (args:=m) d3 ap;have el:∀id∈D,∃c,au st.h id=some c:=λid p=>Ox ap id p;have V:∀e∈N.flatten,∃id∈D,∃c,au st.h id=some c/\e∈fp id:=(by intro e f;rw[d5] at f;obtain⟨i8,F,y⟩:=je.1 f;obtain⟨id,p,rfl⟩:=de.1 F;obtain⟨c,r⟩:=el id p;exact⟨id,p,c,r,y⟩);have gl:N.flatten.Nodup:=(by rw[d5];exact Gz J el ce);have f9:=f8 w I B' an N (λe f=>by
  rcases f with f|f|⟨id,c,r,_,f⟩
  ·exact J.ib e (.inl f)
  ·exact J.ib e (.inr f)
  ·exact((J.tree id c r).2.2 e f).2.2.1) gi gl (λe f=>by
  obtain⟨id,p,c,r,T⟩:=V e f;obtain⟨ax,av,am,ex⟩:=(J.tree id c r).2.2 e T;refine⟨ax,?_,am⟩;rintro(x|⟨em,a0,hw,l,f7⟩)
  ·exact av x
  ·have hr:id≠em:=λQ=>(by rw[<-Q,fG.2 p] at l;cases l);exact J.dis id em c a0 r hw hr e T f7) (hv N λe f=>by
  obtain⟨id,_,c,r,T⟩:=V e f;exact⟨id,c,r,T⟩) f1
 refine f9.mono ?_;rintro Q w' ⟨I',M,L,v,rfl,u⟩;obtain⟨O,Z,ab,ad,ek⟩:=Nz u.res;have d6:=(Eo u.args).2;have d2:nl st.h D q m:=ap
 let n:List (Nat×wZ):=fo rt q m M++jV o (hq k) 0 k O L
 have d1:n.map (λb=>(b.1,b.2.1))=iI q m++hO o (hq k) 0 k:=(by simp only[n,fN];rw[M3 d6,Dp Z ab]);have d0:(n.map (·.1)).Nodup:=(by have:n.map (·.1)=(n.map (λb=>(b.1,b.2.1))).map (·.1):=(by simp[sy]);rw[this,d1];exact ci);have ge:((fo rt q m M).map (λb=>b.2.2.2)).flatten=M.flatten:=M2 d2 u.args;have gf:((jV o (hq k) 0 k O L).map (λb=>b.2.2.2)).flatten.Sublist L.flatten:=NA;have ds:((n.map λb=>b.2.2.2).flatten).Sublist (M.flatten++L.flatten):=(by simp only[n,fN,qL];rw[ge];exact List.Sublist.append (List.Sublist.refl _) gf);obtain⟨f4,f3⟩:=UT (u.wd.sublist ds);have d9:∀b∈fo rt q m M,aT (bj I' C.B) w' b.2.1.1 b.2.2.1 b.2.1.2 b.2.2.2/\b.2.2.1=rt b.1/\b.1∈D/\∃c,au st.h b.1=some c/\b.2.1.1=c.1:=(by exact M4 J (S:=D) (args:=m) (gs:=M) d3 ap u.args);have f5:∀b∈n,aT (bj I' C.B) w' b.2.1.1 b.2.2.1 b.2.1.2 b.2.2.2/\(b.1∈D\/au st.h b.1=none):=by
  intro b z;rcases eN.1 z with z|z
  ·obtain⟨ax,_,am,_⟩:=d9 b z;exact⟨ax,.inl am⟩
  obtain⟨g,al,U,a3⟩:=NB Z ab b z;have hc:g<v.length:=(by rw[ad];exact(eT.1 al).1);obtain⟨_,X⟩:=ek g _ _ _ v[g] al U a3 ac;refine⟨X.mono (λcs e l=>⟨?_,bT.refl _ _⟩) (λe _=>bT.refl _ _),.inr ?_⟩
  ·cases cs
   ·exact l
   exact l.elim .inl (λx=>x.elim)
  have l:(b.1,b.2.1)∈hO o (hq k) 0 k:=(by rw[<-Dp (d:=o) (s:=hq k) (j:=0) Z ab];exact de.2 ⟨b,z,rfl⟩);exact Option.isNone_iff_eq_none.1 (gv _ l)
 have f2:∀b∈n,∀e∈b.2.2.2,e∈M.flatten++L.flatten:=λb z e f=>ds.subset (je.2 ⟨_,de.2 ⟨b,z,rfl⟩,f⟩);have co:∀g,au (iI q m++hO o (hq k) 0 k) g=(au n g).map (·.1):=λg=>by rw[<-d1];exact Li (λb:wZ=>b.1) n g
 let H:Nat->adY:=λg=>match au n g with|some b=>b.2.1|none=>[]
 let G:Nat->ad4:=λg=>match au n g with|some b=>b.2.2|none=>[]
 have ic:l5 C st w w' I I' rt fp D (vR (lc q m)) (iI q m++hO o (hq k) 0 k) H G:=
  ⟨u.size,u.os,u.tape,u.output,λe f f6=>u.heap e f (λgc=>by obtain⟨id,p,c,r,T⟩:=V e gc;exact f6 id p c r T),u.evo,u.i,(λe f=>by
    rcases u.i2 e f with x|⟨F,y|y⟩
    ·exact .inl x
    ·exact .inr ⟨F,.inl y⟩
    exact .inr ⟨F,.inr (V e y)⟩),
   (λid c p=>by
    rw[co] at p;cases R:au n id with
    |none=>rw[R] at p;cases p
    |some b=>
     rw[R] at p;obtain rfl:b.1=c:=ee p;have l:=yF R;obtain⟨F,y⟩:=f5 _ l;refine⟨y,by simp only[H,G,R];exact F,by simp only[G,R];exact f4 _ l,λe f=>?_⟩;simp only[G,R] at f;obtain⟨ax,av,am,ex⟩:=u.Jd e (f2 _ l e f);exact⟨ax,am,ex.imp (λx=>x) (V e)⟩),
   (λY c1 c kd bs bB gt e f=>by
    rw[co] at bs bB;cases a4:au n Y with
    |none=>rw[a4] at bs;cases bs
    |some ii=>
     cases bd:au n c1 with
     |none=>rw[bd] at bB;cases bB
     |some io=>
      simp only[G,a4] at f;simp only[G,bd];exact f3 Y c1 ii io a4 bd gt e f),
   (λfn bl c r=>by
    obtain⟨id,p,rfl⟩:=de.1 bl;obtain⟨b,z,Q,_⟩:=KX (rt:=rt) d2 d6 id p;subst Q;have l:b∈n:=nw _ z;have d7:=CE d0 l;obtain⟨_,y,_,a0,dl,fz⟩:=d9 b z;rw[r] at dl;obtain rfl:=ee dl;exact⟨b.2.1,by rw[co,d7];rfl,fz,by simp only[H,d7];exact y,⟨c.1,by cases c.1<;>rfl⟩,λb _ _ _ W=>by rw[Cx] at W;cases W⟩),
   (λfn bl c r b _ _ _ _ _ d4=>by
    obtain⟨id,p,rfl⟩:=de.1 bl;rw[tk] at d4;cases d4)⟩
 refine⟨I',H,G,v,rfl,ic,λF is ft go=>?_⟩;have eq:∀(g:Nat) (c:aH) (A:Value),k[g]?=some c->v[g]?=some A->bL (bj I' C.B) w' F is ft (bif c.1.pure then .val c.1 c.2 else .ref (qs o (hq k) (0+g)) []) A:=by
  intro g c A al U;have hc:g<k.length:=(eT.1 al).1;obtain⟨a3,X⟩:=ek g c O[g] L[g] A al ac ac U;subst a3;cases ed:c.1.pure with
  |true=>
   simp only[cond_true];have:=X.pure ed;rw[this] at X;refine .val (X.mono (λcs e l=>⟨?_,bT.refl _ _⟩) ac);cases cs
   ·exact l
   exact l.elim .inl (λx=>x.elim)
  |false=>
   simp only[cond_false];have d8:=NC (d:=o) (s:=hq k) (j:=0) Z ab g c O[g] L[g] al ac ac ed;have l:(qs o (hq k) (0+g),(c,O[g],L[g]))∈n:=lw _ d8;have hi:(qs o (hq k) (0+g),c)∈hO o (hq k) 0 k:=(by rw[<-Dp (d:=o) (s:=hq k) (j:=0) Z ab];exact de.2 ⟨_,d8,rfl⟩);obtain⟨ax,av⟩:=go _ hi;refine .ref (t:=c) (loc:=none) ax ?_;have fs:H (qs o (hq k) (0+g))=O[g]:=(by simp only[H,CE d0 l]);rw[av,fs];exact aW.here
 cases K:k with
 |nil=>
  have:v=[]:=lX (by rw[ad,K];rfl);subst this;exact .dM (vs:=#[]) rfl (λY a A x=>by simp[r4] at x)
 |cons c cv=>
  cases cv with
  |nil=>
   obtain⟨A,rfl⟩:∃A,v=[A]:=uN.1 (by rw[ad,K];rfl);have:=eq 0 c A (by rw[K];rfl) rfl;rw[K] at this;exact this
  |cons i0 cv=>
   have hs:o7 v=.tuple v.toArray:=by
    have:v.length=(c::i0::cv).length:=by rw[ad,K]
    match v,this with
    |v1::fc::jp,_=>rfl
   rw[hs];refine .dM (by simp[Nx,ad,K]) (λY i3 A F y=>?_);obtain⟨a0,al,U⟩:=Nw F;have:=eq Y a0 A (by rw[K];exact al) (by simpa using y);rw[K] at this;rw[U];exact this
def ND {a:Nat} {d:Bool} {c:List aH} {e:List (Nat×aH)} (f:((e++hO a d 0 c).map (·.1)).Nodup):∀b∈hO a d 0 c,au (e++hO a d 0 c) b.1=some b.2:=
 λb g=>CE f (lw _ g)
def dA.call {Q:aQ->Prop} {k d:Nat} {m:Oper} {f:Operand} {c:List ao} {b s:Array _} (S:m.op=.call {callee:=.value f,args:=b,argTypes:=s}) (Z:aV st.g f=.dv d c) (K:m.dst=some k) (L:C.ok k) (H:∀(r:adW) (w:World),(callFunc d r).run E.P w=.ok (.enter d r) w) {i:List gh} {n:List aH} (G:qD E d i n) (W:nZ 0 i=none) (z:∀j,C.I0 j\/C.B j->j<C.w0.heap.size/\¬C.F0 j) (A:j2 E C.I0 C.w0) (D:nl st.h (eM (b.toList.map (aV st.g)++c) i) (b.toList.map (aV st.g)++c) i) (p:mb k st (b.toList.map (aV st.g)++c) i n=true) (u:Q (QV k st (b.toList.map (aV st.g)++c) i n)):dA E C m st Q:=by
 rintro a w ⟨I,rt,fp,l⟩ next an R
 obtain⟨e,Y,y⟩:∃e:adW,a.eval f=.func (.func d) #[] e/\hl (bL (bj I C.B) w st.h rt fp) c e.toList:=by
  have o:=l.aV f;rw[Z] at o;generalize bd:a.eval f=bs at o;cases o with|dv N M=>
  exact⟨_,rfl,Ai (by simpa using N) (λab a j v x=>M ab a j v (by simpa using x))⟩
 have F:hl (bL (bj I C.B) w st.h rt fp) (b.toList.map (aV st.g)++c) (b.toList.map a.eval++e.toList):=Em (En (λf=>l.aV f) _) y;have J:=l.call F G D p (λ_ _=>by rw[W];trivial) (l.glob z A);generalize a4:b.toList.map (aV st.g)++c=ap at*;have V:(execOp a.eval m).run E.P w=.ok (.enter d (b.toList.map a.eval++e.toList).toArray) w:=(by have al:b.map a.eval=(b.toList.map a.eval).toArray:=(by rw[<-Array.toList_map]);have t:(b.toList.map a.eval++e.toList).toArray=(b.toList.map a.eval).toArray++e:=ac;rw[t];simp only[execOp,S,resolve,al,Sem.run_bind,Y,Deferred.ofValue,Sem.run_pure,Result.andThen_ok,invoke,Array.empty_append,Array.append_empty];exact H _ _);unfold Oper.wp;rw[V];show Calls E.P d _ w _;refine J.mono ?_;rintro a0 w' ⟨I',bl,a3,am,rfl,X,U⟩;show next (a.put m.dst (o7 am)) w'
 rw[K];have q:=p;simp only[mb,bp] at q;have O:=h9.ok q.1.2;refine R _ _ _ u rfl ⟨I',_,_,(l.bU X).put L (av:=uk k n) (U _ _ _ (λad T=>?_))⟩;have:=ND O ad T;exact⟨by rw[jo,this];rfl,by simp only[dI,this]⟩
end
end
end Go.h2
end
