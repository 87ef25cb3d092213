import Derived.Test.YtckljdhdadiphaaGreatDoorQ3
import Derived.Lib.ItoaMem
namespace Go.Proofs.YtckljdhdadiphaaGreatDoor
open Go.RowKit
set_option linter.unusedVariables false
set_option linter.unusedSimpArgs false
structure aI (s:ah.T):Prop where
 pos:(0:Int)≤s.2.1
 le:(s.2.1:Int)≤(s.1.length:Int)
 len:s.1.length≤maxLen
 bytes:∀b ∈ s.1,(0:Int)≤b∧(b:Int)≤255
 seed0:(0:Int)≤s.2.2.1
 seed1:(s.2.2.1:Int)<2147483647
def drawn(n v:Int):Prop:=0≤v∧(v<n∨(n≤1∧v=0))
theorem vQ {m n:Int}(hm:0≤m)(hn:0<n):0≤Int.tmod m n∧Int.tmod m n<n:=⟨Int.tmod_nonneg n hm,Int.tmod_lt_of_pos m hn⟩
theorem Ww(s:Int)(h0:0≤s)(h1:s<2147483647):IntKind.i64.wrap (IntKind.i64.wrap (s*48271)+17)=s*48271+17:=by
 rw[ai (n:=s*48271) (by omega) (by omega),ai (by omega) (by omega)]
def lL(s:Int):Int:=Int.tmod (s*48271+17) 2147483647
theorem XV(s:Int)(h0:0≤s)(h1:s<2147483647):0≤lL s∧lL s<2147483647:=vQ (by omega) (by omega)
theorem NU(s:ah.T)(n:Int)(hs:aI s):∃(v:Int) (s':ah.T),aa (s,n,())=some (v,s',())∧drawn n v∧aI s':=by
 obtain⟨l,(p:Int),(c:Int),u⟩:=s
 have p0:0≤p:=hs.pos
 have p1:p≤(l.length:Int):=hs.le
 have pl:l.length≤9223372036854775807:=hs.len
 have c0:0≤c:=hs.seed0
 have c1:c<2147483647:=hs.seed1
 obtain⟨n0,n1⟩:=XV c c0 c1
 have hw:=Ww c c0 c1
 unfold aa
 by_cases hn:n≤1
 ·exact⟨0,(l,p,c,u),by simp only[decide_eq_true hn],⟨by omega,Or.inr ⟨hn,rfl⟩⟩,hs⟩
 ·have hn0:n≠0:=by omega
  have hnp:0<n:=by omega
  have hdiv:Int.tdiv (lL c) 23=lL c / 23:=Int.tdiv_eq_ediv_of_nonneg n0
  have hw2:IntKind.i64.wrap (lL c / 23)=lL c / 23:=ai (by omega) (by omega)
  have hseed:Int.tmod (IntKind.i64.wrap (IntKind.i64.wrap (c*48271)+17)) 2147483647=lL c:=by rw[hw];rfl
  have hnn:(n=0)=False:=by simp[hn0]
  by_cases hp:p<(l.length:Int)
  ·obtain⟨i,rfl⟩:∃i:Nat,p=i:=⟨p.toNat,by omega⟩
   have hi:i<l.length:=by omega
   obtain⟨b0,b1⟩:=hs.bytes l[i] (List.getElem_mem hi)
   have hpn:IntKind.i64.wrap ((i:Int)+1)=((i+1:Nat):Int):=by rw[ai]<;>omega
   have hpm:IntKind.i64.wrap (((i+1:Nat):Int)-1)=(i:Int):=by rw[ai]<;>omega
   have hg:aI (l,((i+1:Nat):Int),lL c,()):=⟨by show(0:Int)≤((i+1:Nat):Int);omega,by show((i+1:Nat):Int)≤(l.length:Int);omega,hs.len,hs.bytes,n0,n1⟩
   have hb:IntKind.i64.wrap l[i]=l[i]:=ai (Int.le_trans (by decide) b0) (Int.le_trans b1 (by decide))
   have hsum0:(0:Int)≤lL c / 23+l[i]:=Int.add_nonneg (by omega) b0
   have hsum1:lL c / 23+(l[i]:Int)≤9223372036854775807:=by
    have:=Int.add_le_add (show lL c / 23≤2147483647 by omega) b1
    exact Int.le_trans this (by decide)
   have hws:IntKind.i64.wrap (lL c / 23+l[i])=lL c / 23+l[i]:=ai (Int.le_trans (by decide) hsum0) hsum1
   have m1:=vQ hsum0 hnp
   have m2:=vQ b0 hnp
   simp only[decide_eq_false hn,decide_eq_true hp,hseed,hdiv,hw2,hpn,hpm,au hi,ab,hb,hws,hnn,if_false]
   rcases Bool.eq_false_or_eq_true (decide (n≤256))with h1|h1<;>simp only[h1]
   ·rcases Bool.eq_false_or_eq_true (Int.tmod ((i+1:Nat):Int) 2==0)with h2|h2<;>simp only[h2]
    ·exact⟨_,_,rfl,⟨m2.1,Or.inl m2.2⟩,hg⟩
    ·exact⟨_,_,rfl,⟨m1.1,Or.inl m1.2⟩,hg⟩
   ·exact⟨_,_,rfl,⟨m1.1,Or.inl m1.2⟩,hg⟩
  ·have m1:=vQ (m:=lL c / 23) (by omega) hnp
   simp only[decide_eq_false hn,decide_eq_false hp,hseed,hdiv,hw2,hnn,if_false]
   exact⟨_,_,rfl,⟨m1.1,Or.inl m1.2⟩,⟨p0,p1,hs.len,hs.bytes,n0,n1⟩⟩
theorem TU(l:List Int)(hl:l.length≤4096)(hb:∀b ∈ l,(0:Int)≤b∧b≤255):∃s,sK (l,())=some (s,())∧aI s:=by
 have key:∀(k i:Nat) (c:Int),i+k=l.length→0≤c→c<2147483647→∃s,ac ir (l,(l,(0:Int),c,()),(i:Int),())=some (.inl (s,()))∧aI s:=by
  intro k
  induction k with
  |zero=>
   intro i c hi h0 h1
   have:i=l.length:=by omega
   subst this
   refine⟨(l,(0:Int),c,()), ?_,⟨Int.le_refl 0,by show(0:Int)≤(l.length:Int);omega,by show l.length≤maxLen;unfold maxLen;omega,hb,h0,h1⟩⟩
   rw[aj]
   simp only[ir,bu]
  |succ k ih=>
   intro i c hi h0 h1
   have h:i<l.length:=by omega
   obtain⟨b0,b1⟩:=hb l[i] (List.getElem_mem h)
   rw[aj]
   simp only[ir,bj h]
   rcases Bool.eq_false_or_eq_true (decide ((i:Int)<64))with h64|h64<;>simp only[h64]
   ·have hw1:IntKind.i64.wrap (c*53)=c*53:=ai (by omega) (by omega)
    have hw2:IntKind.i64.wrap l[i]=l[i]:=ai (by omega) (by omega)
    have hw3:IntKind.i64.wrap (c*53+l[i])=c*53+l[i]:=ai (by omega) (by omega)
    have m:=vQ (m:=c*53+l[i]) (n:=2147483647) (by omega) (by omega)
    simp only[au h,ab,aL h (show l.length≤1099511627776 by omega),hw1,hw2,hw3]
    exact ih (i+1) _ (by omega) m.1 m.2
   ·exact⟨(l,(0:Int),c,()),rfl,⟨Int.le_refl 0,by show(0:Int)≤(l.length:Int);omega,by show l.length≤maxLen;unfold maxLen;omega,hb,h0,h1⟩⟩
 obtain⟨s,hs,hg⟩:=key l.length 0 40009 (by omega) (by omega) (by omega)
 have hs':ac ir (l,(l,(0:Int),(40009:Int),()),(0:Int),())=some (.inl (s,())):=hs
 refine⟨s, ?_,hg⟩
 unfold sK
 simp only[hs']
theorem TV {s:ah.T}{n:Int}(hs:aI s):aa (s,n,())≠none:=by
 obtain⟨v,s',h,_⟩:=NU s n hs
 rw[h]
 simp
theorem OE {s:ah.T}{n:Int}{v}(hs:aI s)(h:aa (s,n,())=some v):drawn n v.1∧aI (v.2.1.1,v.2.1.2.1,v.2.1.2.2.1,()):=by
 obtain⟨v',s',h',hd,hg⟩:=NU s n hs
 rw[h']at h
 cases h
 exact⟨hd,hg⟩
theorem cM {s:ah.T}(h:aI s):aI (s.1,s.2.1,s.2.2.1,()):=h
theorem pick {α:Type}{n v:Int}(l:List α)(hd:drawn n v)(hn:n≤l.length)(h1:1≤l.length):∃y,av l v=some y∧l[v.toNat]? =some y∧y ∈ l:=by
 obtain⟨h0,h⟩:=hd
 have hv:v.toNat<l.length:=by omega
 refine⟨l[v.toNat], ?_, ?_,List.getElem_mem hv⟩
 ·unfold av
  rw[if_pos h0,List.getElem?_eq_getElem hv]
 ·rw[List.getElem?_eq_getElem hv]
theorem XW {α:Type}{n v:Int}{l:List α}(hd:drawn n v)(hn:n≤l.length)(h1:1≤l.length):∃y,av l v=some y:=by
 obtain⟨y,h2,h3,h4⟩:=pick l hd hn h1
 exact⟨y,h2⟩
theorem rP {α:Type}{n v:Int}{l:List α}(hd:drawn n v)(hn:n≤l.length)(h1:1≤l.length):l[v.toNat]? ≠none:=by
 obtain⟨y,h2,h3,h4⟩:=pick l hd hn h1
 rw[h3];simp
theorem lE {α:Type}{n v:Int}{l:List α}(hd:drawn n v)(hn:n≤l.length)(h1:1≤l.length):av l v≠none:=by
 obtain⟨y,h⟩:=XW hd hn h1
 rw[h];simp
theorem RQ {l:List Int}(hx:Wf (.list (.int .u8)) l):∀b ∈ l,(0:Int)≤b∧b≤255:=by
 intro b hb
 have h1:(Lit.int .u8 b).wf=true:=hx.2 b hb
 simp[Lit.wf,IntKind.min,IntKind.max,IntKind.signed,IntKind.bits]at h1
 omega
end Go.Proofs.YtckljdhdadiphaaGreatDoor
namespace Go.Proofs.YtckljdhdadiphaaGreatDoor
open Go.RowKit
set_option linter.unusedVariables false
set_option linter.unusedSimpArgs false
theorem OG {s:ah.T}(hs:aI s):∃y,az (s,())=some y∧aI (y.2.1.1,y.2.1.2.1,y.2.1.2.2.1,()):=by
 have hs:=cM hs
 unfold az
 simp only
 repeat' first
  |exact⟨_,rfl,by assumption⟩
  |(split;(rename_i h;exact absurd h (TV (by assumption)));rename_i v h;obtain⟨hd,hg⟩:=OE (by assumption) h)
  |split
theorem XX {s:ah.T}(hs:aI s):az (s,())≠none:=by
 obtain⟨y,h,_⟩:=OG hs
 rw[h]
 simp
theorem U4 {s:ah.T}{v}(hs:aI s)(h:az (s,())=some v):aI (v.2.1.1,v.2.1.2.1,v.2.1.2.2.1,()):=by
 obtain⟨y,h',hg⟩:=OG hs
 rw[h']at h
 cases h
 exact hg
theorem TW {s:ah.T}(hs:aI s):∃y,mA (s,())=some y∧aI (y.2.1.1,y.2.1.2.1,y.2.1.2.2.1,()):=by
 have hs:=cM hs
 unfold mA
 simp only[ab]
 split;(rename_i h;exact absurd h (XX (by assumption)))
 rename_i v h
 have hg:=U4 (by assumption) h
 repeat' first
  |exact⟨_,rfl,by assumption⟩
  |(split;(rename_i h;exact absurd h (TV (by assumption)));rename_i v h;obtain⟨hd,hg⟩:=OE (by assumption) h)
  |(split;rotate_left;(rename_i h;exact absurd h (lE (by assumption) (by simp) (by simp))))
  |(split;(rename_i h;exact absurd h (rP (by assumption) (by simp) (by simp)));rename_i v h)
  |split
end Go.Proofs.YtckljdhdadiphaaGreatDoor
namespace Go.Proofs.YtckljdhdadiphaaGreatDoor
open Go.RowKit
set_option linter.unusedVariables false
set_option linter.unusedSimpArgs false
theorem jI {R:Type}(x:Option R):an x=x:=cE x
theorem Zp {n:Int}(h0:0≤n)(h1:n≤255):IntKind.u8.wrap n=n:=by
 simp[IntKind.wrap,IntKind.signed,IntKind.bits]
 omega
abbrev B8(n:Nat):List UInt8:=Lib.decDigits n
theorem GP {n:Nat}(h:n<10):B8 n= [UInt8.ofNat (48+n)]:=by
 show Lib.decDigits n=_
 rw[Lib.decDigits,dif_pos h]
theorem TX {n:Nat}(h:¬n<10):B8 n=B8 (n / 10)++ [UInt8.ofNat (48+n % 10)]:=by
 show Lib.decDigits n=_
 rw[Lib.decDigits,dif_neg h]
theorem B9(k:Nat)(h:k<10):List.map (fun n=>UInt8.ofNat (Int.toNat n)) ([(IntKind.u8.wrap (IntKind.i64.wrap ((48:Int)+(k:Int))))]:List Int)= [UInt8.ofNat (48+k)]:=by
 rw[ai (by omega) (by omega),Zp (by omega) (by omega)]
 have:Int.toNat ((48:Int)+(k:Int))=48+k:=by omega
 simp[this]
theorem NV:∀(i n:Nat),n<10^(i+1)→(B8 n).length≤i+1
 |0,n,h=>by rw[GP (by simpa using h)];simp
 |i+1,n,h=>by
  by_cases hn:n<10
  ·rw[GP hn];simp
  ·rw[TX hn]
   have:=NV i (n / 10) (by rw[Nat.pow_succ]at h;omega)
   simp
   omega
theorem Wx:∀(i n:Nat),i≤1000→n<10^(i+1)→n≤9223372036854775807→kj (i+1) ((n:Int),())=some (B8 n,())
 |0,n,_,h,_=>by
  have hn:n<10:=by simpa using h
  have e:kj (0+1) ((n:Int),())=jR (kj 0) ((n:Int),()):=rfl
  have hd:decide ((n:Int)<10)=true:=by simp;omega
  rw[e,GP hn]
  unfold jR
  simp only[hd,B9 n hn]
 |i+1,n,hi,h,hb=>by
  have e:kj (i+1+1) ((n:Int),())=jR (kj (i+1)) ((n:Int),()):=rfl
  rw[e]
  unfold jR
  by_cases hn:n<10
  ·have hd:decide ((n:Int)<10)=true:=by simp;omega
   rw[GP hn]
   simp only[hd,B9 n hn]
  ·have hd:decide ((n:Int)<10)=false:=by simp;omega
   have hlt:n / 10<10^(i+1):=by rw[Nat.pow_succ]at h;omega
   have h1:IntKind.i64.wrap (Int.tdiv (n:Int) (10:Int))=((n / 10:Nat):Int):=by
    have:Int.tdiv (n:Int) (10:Int)=((n / 10:Nat):Int):=rfl
    rw[this,ai]<;>omega
   have h2:Int.tmod (n:Int) (10:Int)=((n % 10:Nat):Int):=rfl
   have h3:=B9 (n % 10) (by omega)
   have h4:=NV i (n / 10) hlt
   rw[TX hn]
   simp only[hd,h1,h2,h3,Wx i (n / 10) (by omega) hlt (by omega),jI,cE]
   rw[aC (by simp only[List.length_cons,List.length_nil];omega)]
theorem abj(n:Nat)(h:n≤4294967295):kj 100 ((n:Int),())=some (B8 n,()):=Wx 99 n (by decide) (Nat.lt_of_lt_of_le (show n<10^10 by omega) (Nat.pow_le_pow_right (by decide) (by decide))) (by omega)
theorem Wy(n:Nat)(h:n≤4294967295):(B8 n).length≤10:=NV 9 n (by omega)
end Go.Proofs.YtckljdhdadiphaaGreatDoor
namespace Go.Proofs.YtckljdhdadiphaaGreatDoor
open Go.RowKit
set_option linter.unusedVariables false
set_option linter.unusedSimpArgs false
theorem bZ {α:Type}{o:Option α}{Q:α→Prop}(h:∃y,o=some y∧Q y):o≠none:=by
 obtain⟨y,e,_⟩:=h
 rw[e];simp
theorem br {α:Type}{o:Option α}{Q:α→Prop}{v:α}(h:∃y,o=some y∧Q y)(e:o=some v):Q v:=by
 obtain⟨y,e',q⟩:=h
 rw[e']at e
 cases e
 exact q
theorem ay {s:ah.T}{n:Int}(hs:aI s):∃y,aa (s,n,())=some y∧(drawn n y.1∧aI (y.2.1.1,y.2.1.2.1,y.2.1.2.2.1,())):=by
 obtain⟨v,s',h,hd,hg⟩:=NU s n hs
 exact⟨_,h,hd,hg⟩
theorem OH {X O:Type}{B:X→Option (X ⊕ O)}(I:Nat→X→Prop)(Q:O→Prop)(h0:∀x,I 0 x→∃o,B x=some (.inr o)∧Q o)(hs:∀n x,I (n+1) x→∃y,B x=some y∧(match y with| .inl x'=>I n x'| .inr _=>False)):
  ∀n x,I n x→∃o,ac B x=some o∧Q o
 |0,x,h=>by
  obtain⟨o,h1,h2⟩:=h0 x h
  exact⟨o,by rw[aj,h1],h2⟩
 |n+1,x,h=>by
  obtain⟨y,h1,h2⟩:=hs n x h
  cases y with
  |inr o=>exact h2.elim
  |inl x'=>
   obtain⟨o,h3,h4⟩:=OH I Q h0 hs n x' h2
   exact⟨o,by rw[aj,h1];exact h3,h4⟩
theorem Ca {k:Nat}(hk:k≤1000000):IntKind.i64.wrap (((k+1:Nat):Int)-1)=(k:Int):=by rw[ai]<;>omega
theorem Cb(k:Nat):decide (((k+1:Nat):Int)>0)=true:=by simp
theorem Cc:decide (((0:Nat):Int)>0)=false:=by simp
theorem cb {n v:Int}(h:drawn n v)(hn:1≤n):∃k:Nat,v=k∧(k:Int)<n:=by
 obtain⟨h0,h1⟩:=h
 exact⟨v.toNat,by omega,by omega⟩
def qJ(v:aA.T):Prop:=0≤(v.1:Int)∧(v.1:Int)≤31∧v.2.1.length≤20
theorem S8(n:Nat)(hn:n≤4)(x)(h0:(x.2.2.2.1:Int)=(n:Nat))(hg:aI x.1)(hl:x.2.1.length+n≤4)(h1:1≤x.2.1.length+n)(hid:0≤(x.2.2.1:Int))(hid2:(x.2.2.1:Int)+3*n≤20)(hp:∀v ∈ x.2.1,qJ v):
  ∃o,ac iA x=some (.inl o)∧(aI o.1∧o.2.1.length≤4∧1≤o.2.1.length∧∀v ∈ o.2.1,qJ v):=by
 obtain⟨o,h2,h3⟩:=OH (B:=iA) (fun k x=>(x.2.2.2.1:Int)=(k:Nat)∧aI x.1∧x.2.1.length+k≤4∧1≤x.2.1.length+k∧0≤(x.2.2.1:Int)∧(x.2.2.1:Int)+3*k≤20∧∀v ∈ x.2.1,qJ v) (fun o=>match o with
  | .inl v=>aI v.1∧v.2.1.length≤4∧1≤v.2.1.length∧∀u ∈ v.2.1,qJ u
  | .inr _=>False) (fun x ⟨hk,hg,hl,h1,hi,hi2,hp⟩=>by
    unfold iA
    rw[hk]
    simp only[Cc]
    exact⟨_,rfl,hg,by omega,by omega,hp⟩) (fun k x ⟨hk,hg,hl,h1,hi,hi2,hp⟩=>by
    obtain⟨s,l,(id:Int),(c:Int),⟨⟩⟩:=x
    have hg:=cM hg
    have hk:c=((k+1:Nat):Int):=hk
    have hi:0≤id:=hi
    have hi2:id+3*((k+1:Nat):Int)≤20:=hi2
    have hl:l.length+(k+1)≤4:=hl
    have hp:∀v ∈ l,qJ v:=hp
    obtain⟨j,rfl⟩:∃j:Nat,id=(j:Int):=⟨id.toNat,by omega⟩
    have hjl:j≤20:=by omega
    have hdec:kj 100 ((j:Int),())=some (B8 j,()):=abj j (by omega)
    have hlen:(B8 j).length≤10:=Wy j (by omega)
    subst hk
    unfold iA
    rw[Ca (by omega)]
    simp only[Cb,hdec]
    rw[aC (by simp;omega)]
    (split;(rename_i h;exact absurd h (bZ (ay (by assumption))));rename_i v h;obtain⟨hd,hg⟩:=br (ay (by assumption)) h)
    (split;(rename_i h;exact absurd h (bZ (ay (by assumption))));rename_i v h;obtain⟨hd,hg⟩:=br (ay (by assumption)) h)
    rw[aC (by simp;omega)]
    split;(rename_i h;exact absurd h (bZ (ay (by assumption))))
    rename_i v6 h6
    obtain⟨hd6,hg6⟩:=br (ay (by assumption)) h6
    obtain⟨d,hd,hd3⟩:=cb hd6 (by omega)
    have e1:IntKind.i64.wrap ((j:Int)+1)=(j:Int)+1:=ai (by omega) (by omega)
    have e2:IntKind.i64.wrap ((j:Int)+1+(d:Int))=(j:Int)+1+(d:Int):=ai (by omega) (by omega)
    rw[hd,e1,e2]
    refine⟨_,rfl,rfl,hg6,by simp;omega,by simp;omega,by show(0:Int)≤(j:Int)+1+(d:Int);omega,by show(j:Int)+1+(d:Int)+3*(k:Int)≤20;omega,fun u hu=> ?_⟩
    rcases List.mem_append.1 hu with hu|hu
    ·exact hp u hu
    ·simp only[List.mem_singleton]at hu
     subst hu
     exact⟨by show(0:Int)≤(j:Int);omega,by show(j:Int)≤31;omega,by simp;omega⟩) n x ⟨h0,hg,hl,h1,hid,hid2,hp⟩
 cases o with
 |inr v=>exact h3.elim
 |inl v=>exact⟨v,h2,h3⟩
theorem L3 {s:ah.T}(hs:aI s):∃y,sU (s,())=some y∧(aI (y.2.1.1,y.2.1.2.1,y.2.1.2.2.1,())∧y.1.length≤4∧1≤y.1.length∧∀v ∈ y.1,qJ v):=by
 have hs:=cM hs
 unfold sU
 split;(rename_i h;exact absurd h (bZ (ay (by assumption))))
 rename_i v1 h1
 obtain⟨hd1,hg1⟩:=br (ay (by assumption)) h1
 split;(rename_i h;exact absurd h (bZ (ay (by assumption))))
 rename_i v2 h2
 obtain⟨hd2,hg2⟩:=br (ay (by assumption)) h2
 obtain⟨a,ha,ha2⟩:=cb hd1 (by omega)
 obtain⟨b,hb,hb2⟩:=cb hd2 (by omega)
 have e:IntKind.i64.wrap ((1:Int)+(b:Int))=((b+1:Nat):Int):=by rw[ai]<;>omega
 rw[ha,hb,e]
 obtain⟨o,h3,h4⟩:=S8 (b+1) (by omega) ((v2.2.1.1,v2.2.1.2.1,v2.2.1.2.2.1,()),[],(a:Int),((b+1:Nat):Int),()) rfl hg2 (by simp;omega) (by simp) (by show(0:Int)≤(a:Int);omega) (by show(a:Int)+3*((b+1:Nat):Int)≤20;omega) (fun v hv=>by cases hv)
 simp only[h3]
 exact⟨_,rfl,h4⟩
def xA(l:List aA.T):Prop:=l.length≤100∧∀v ∈ l,v.2.1.length≤100
theorem U5:xA []:=⟨Nat.zero_le _,fun v hv=>by cases hv⟩
theorem Cd {l:List aA.T}{k:Nat}{u:aA.T}(h:xA l)(hu:u.2.1.length≤100):xA (l.set k u):=by
 refine⟨by rw[List.length_set];exact h.1,fun v hv=> ?_⟩
 rcases List.mem_or_eq_of_mem_set hv with hv|rfl
 ·exact h.2 v hv
 ·exact hu
theorem OI {s:ah.T}(hs:aI s):∃y,qm (s,())=some y∧(aI (y.2.1.1,y.2.1.2.1,y.2.1.2.2.1,())∧xA y.1):=by
 have hs:=cM hs
 unfold qm
 simp only[ab]
 split;(rename_i h;exact absurd h (bZ (L3 (by assumption))))
 rename_i v1 h1
 obtain⟨hg1,hl1,hp1,hn1⟩:=br (L3 (by assumption)) h1
 have hS:xA v1.1:=⟨by omega,fun v hv=>by have:=(hn1 v hv).2.2;omega⟩
 have hm:∀ {k:Nat} {u:aA.T},v1.1[k]? =some u→u.2.1.length≤100:=fun h=>hS.2 _ (List.mem_of_getElem? h)
 have hnames:∀ {k:Nat} {u:List UInt8},[[],([115,101,118,101,110,110,55]:List UInt8),([115,105,120,120,120,54]:List UInt8),([78,49]:List UInt8),([110,48]:List UInt8)][k]? =some u→u.length≤100:=fun h=>by
  have:=List.mem_of_getElem? h
  simp only[List.mem_cons,List.not_mem_nil,or_false]at this
  rcases this with rfl|rfl|rfl|rfl|rfl<;>simp
 (split;(rename_i h;exact absurd h (bZ (ay (by assumption))));rename_i v h;obtain⟨hd,hg⟩:=br (ay (by assumption)) h)
 (split;(rename_i h;exact absurd h (bZ (ay (by assumption))));rename_i v h;obtain⟨hd,hg⟩:=br (ay (by assumption)) h)
 repeat' first
  |exact⟨_,rfl,by assumption,by assumption⟩
  |exact⟨_,rfl,by assumption,U5⟩
  |exact⟨_,rfl,by assumption,Cd hS (hnames (by assumption))⟩
  |exact⟨_,rfl,by assumption,Cd hS (hm (by assumption))⟩
  |exact⟨_,rfl,by assumption,Cd hS (show v.2.1.length≤100 from hm h)⟩
  |(rw[aC (by simp;omega)];refine⟨_,rfl,by assumption,by simp;omega,fun v hv=> ?_⟩;rcases List.mem_append.1 hv with hv|hv;exact hS.2 v hv;(simp only[List.mem_singleton]at hv;subst hv;first|exact hm (by assumption)|exact(show v.2.1.length≤100 from hm h)|exact hm h))
  |(split;(rename_i h;exact absurd h (bZ (ay (by assumption))));rename_i v h;obtain⟨hd,hg⟩:=br (ay (by assumption)) h)
  |(first|(split;rotate_left;(rename_i h;exact absurd h (lE (by assumption) (by simp) (by first|assumption|simp))))|(split;(rename_i h;exact absurd h (rP (by assumption) (by simp) (by first|assumption|simp)));rename_i v h))
  |split
def tz(l:List aG.T):Prop:=l.length≤100∧∀v ∈ l,v.2.2.1.length≤100
theorem U6:tz []:=⟨Nat.zero_le _,fun v hv=>by cases hv⟩
theorem U7 {n:Nat}{u:aG.T}(h:n≤100)(hu:u.2.2.1.length≤100):tz (List.replicate n u):=⟨by rw[List.length_replicate];exact h,fun v hv=>by rw[List.eq_of_mem_replicate hv];exact hu⟩
theorem pe {i n:Int}(h:i<n):decide (i<n)=true:=decide_eq_true h
theorem rQ {i n:Int}(h:¬i<n):decide (i<n)=false:=decide_eq_false h
theorem JR {i n:Int}(h0:0≤i)(h:i<n)(hn:n≤1000000):IntKind.i64.wrap (i+1)=i+1:=ai (by omega) (by omega)
def Wz(l:List aG.T):Prop:=∀v ∈ l,v.2.2.1.length≤10
theorem yK(out:List aG.T)(c i:Int)(hc:c≤10):∀(k:Nat) (s:ah.T) (nx:List Int) (j:Int),aI s→0≤j→j+(k:Int)=c→nx.length+k≤10→
  ∃(s':ah.T) (nx':List Int),ac gu (s,out,c,i,nx,j,())=some (.inl (s',out,c,i,nx',()))∧aI s'∧nx'.length≤10
 |0,s,nx,j,hs,h0,hk,hl=>by
  refine⟨s,nx, ?_,hs,by omega⟩
  rw[aj]
  simp only[gu,rQ (show ¬j<c by omega)]
 |k+1,s,nx,j,hs,h0,hk,hl=>by
  have hw:IntKind.i64.wrap (j+1)=j+1:=JR h0 (n:=c) (by omega) (by omega)
  obtain⟨y,hy,hd,hg⟩:=ay (n:=2) hs
  have hy:aa ((s.1,s.2.1,s.2.2.1,()),(2:Int),())=some y:=hy
  have hr:∀ {R:Type} (q:Option R),aH (nx.length+ [j].length) q=q:=fun q=>aC (by simp;omega)
  by_cases hj:(j != i)=true
  ·by_cases hz:(y.1==(0:Int))=true
   ·obtain⟨s',nx',h1,h2,h3⟩:=yK out c i hc k (y.2.1.1,y.2.1.2.1,y.2.1.2.2.1,()) (nx++ [j]) (j+1) hg (by omega) (by omega) (by simp;omega)
    refine⟨s',nx', ?_,h2,h3⟩
    rw[aj]
    simp only[gu,pe (show j<c by omega),hj,hy,hz,hr,hw]
    exact h1
   ·have hz:(y.1==(0:Int))=false:=by simpa using hz
    obtain⟨s',nx',h1,h2,h3⟩:=yK out c i hc k (y.2.1.1,y.2.1.2.1,y.2.1.2.2.1,()) nx (j+1) hg (by omega) (by omega) (by omega)
    refine⟨s',nx', ?_,h2,h3⟩
    rw[aj]
    simp only[gu,pe (show j<c by omega),hj,hy,hz,hw]
    exact h1
  ·have hj:(j != i)=false:=by simpa using hj
   obtain⟨s',nx',h1,h2,h3⟩:=yK out c i hc k (s.1,s.2.1,s.2.2.1,()) nx (j+1) (cM hs) (by omega) (by omega) (by omega)
   refine⟨s',nx', ?_,h2,h3⟩
   rw[aj]
   simp only[gu,pe (show j<c by omega),hj,hw]
   exact h1
theorem Ii(c:Int)(hc:c≤10):∀(k:Nat) (s:ah.T) (l:List aG.T) (i:Int),aI s→0≤i→i+(k:Int)=c→l.length+k≤10→Wz l→
  ∃(s':ah.T) (l':List aG.T),ac jF (s,l,c,i,())=some (.inl (s',l',()))∧aI s'∧Wz l'∧l'.length=l.length+k
 |0,s,l,i,hs,h0,hk,hl,hm=>by
  refine⟨s,l, ?_,hs,hm,rfl⟩
  rw[aj]
  simp only[jF,rQ (show ¬i<c by omega)]
 |k+1,s,l,i,hs,h0,hk,hl,hm=>by
  have hw:IntKind.i64.wrap (i+1)=i+1:=JR h0 (n:=c) (by omega) (by omega)
  obtain⟨s1,nx,e1,hg1,hn⟩:=yK l c i hc c.toNat (s.1,s.2.1,s.2.2.1,()) [] 0 (cM hs) (by omega) (by omega) (by show 0+c.toNat≤10;omega)
  obtain⟨y,hy,hd,hg⟩:=ay (n:=3) hg1
  have hy:aa ((s1.1,s1.2.1,s1.2.2.1,()),(3:Int),())=some y:=hy
  obtain⟨z,hz,hd2,hg2⟩:=ay (n:=4) hg
  have hr:∀ {R:Type} (u:aG.T) (q:Option R),aH (l.length+ [u].length) q=q:=fun u q=>aC (by simp;omega)
  obtain⟨s',l',h1,h2,h3,h4⟩:=Ii c hc k (z.2.1.1,z.2.1.2.1,z.2.1.2.2.1,()) (l++ [((IntKind.i64.wrap ((1:Int)+y.1)),(IntKind.i64.wrap ((1:Int)+z.1)),nx,())]) (i+1) hg2 (by omega) (by omega) (by simp;omega) (fun v hv=>by
   rcases List.mem_append.1 hv with hv|hv
   ·exact hm v hv
   ·simp only[List.mem_singleton]at hv
    subst hv
    exact hn)
  refine⟨s',l', ?_,h2,h3,by rw[h4];simp;omega⟩
  rw[aj]
  simp only[jF,pe (show i<c by omega),e1,hy,hz,hr,hw]
  exact h1
theorem WA {s:ah.T}(hs:aI s):∃y,yo (s,())=some y∧(aI (y.2.1.1,y.2.1.2.1,y.2.1.2.2.1,())∧(∀v ∈ y.1,v.2.2.1.length≤10)∧1≤y.1.length∧y.1.length≤10):=by
 have hs:=cM hs
 unfold yo
 split;(rename_i h;exact absurd h (bZ (ay (by assumption))))
 rename_i v1 h1
 obtain⟨hd1,hg1⟩:=br (ay (by assumption)) h1
 obtain⟨a,ha,ha2⟩:=cb hd1 (by omega)
 have e:IntKind.i64.wrap ((1:Int)+(a:Int))=(1:Int)+(a:Int):=ai (by omega) (by omega)
 rw[ha,e]
 obtain⟨s2,l2,h3,h4,h5,h6⟩:=Ii ((1:Int)+(a:Int)) (by omega) (a+1) (v1.2.1.1,v1.2.1.2.1,v1.2.1.2.2.1,()) [] 0 hg1 (by omega) (by omega) (by simp;omega) (fun v hv=>by cases hv)
 simp only[h3]
 have h6:l2.length=0+(a+1):=h6
 exact⟨_,rfl,cM h4,h5,by show 1≤l2.length;omega,by show l2.length≤10;omega⟩
theorem L4 {l:List aG.T}{k:Nat}{u:aG.T}(h:tz l)(hu:u.2.2.1.length≤100):tz (l.set k u):=by
 refine⟨by rw[List.length_set];exact h.1,fun v hv=> ?_⟩
 rcases List.mem_or_eq_of_mem_set hv with hv|rfl
 ·exact h.2 v hv
 ·exact hu
theorem WB(x):∃z,dU x=some (z,()):=by
 have hb:∀a b:Int,∃z,jE (a,b,())=some (z,()):=fun a b=>by
  unfold jE dj
  simp only[tn]
  rcases Bool.eq_false_or_eq_true (a != (0:Int))with h|h<;>rcases Bool.eq_false_or_eq_true (fQ a)with h2|h2<;>simp only[h,h2]<;>exact⟨_,rfl⟩
 obtain⟨z,hz⟩:=hb x.1 x.2.1
 unfold dU
 simp only[hz]
 exact⟨_,rfl⟩
theorem RR {s:ah.T}(hs:aI s):∃y,pB (s,())=some y∧aI (y.2.1.1,y.2.1.2.1,y.2.1.2.2.1,()):=by
 have hs:=cM hs
 have hc:∀a b:Int,∃z,dU (a,b,())=some (z,()):=fun a b=>WB _
 have hdt:∀a:Int,∃b,fH (a,())=some (b,()):=fun a=>by
  unfold fH
  split<;>exact⟨_,rfl⟩
 unfold pB
 simp only
 (split;(rename_i h;exact absurd h (bZ (ay (by assumption))));rename_i v h;obtain⟨hd,hg⟩:=br (ay (by assumption)) h)
 (split;(rename_i h;exact absurd h (bZ (ay (by assumption))));rename_i v h;obtain⟨hd,hg⟩:=br (ay (by assumption)) h)
 (split;(rename_i h;exact absurd h (bZ (ay (by assumption))));rename_i v h;obtain⟨hd,hg⟩:=br (ay (by assumption)) h)
 split
 ·rename_i h
  exact absurd h (by obtain⟨b,e⟩:=hdt _;rw[e];simp)
 repeat' first
  |exact⟨_,rfl,by assumption⟩
  |(split;(rename_i h;exact absurd h (by obtain⟨b,e⟩:=hc _ _;rw[e];simp)))
  |(split;(rename_i h;exact absurd h (bZ (ay (by assumption))));rename_i v h;obtain⟨hd,hg⟩:=br (ay (by assumption)) h)
  |split
theorem OJ {s:ah.T}(hs:aI s):∃y,qo (s,())=some y∧aI (y.2.1.1,y.2.1.2.1,y.2.1.2.2.1,()):=by
 have hs:=cM hs
 have hc:∀x,∃z,dU x=some (z,()):=fun x=>WB x
 unfold qo
 simp only[ab]
 split;(rename_i h;exact absurd h (bZ (RR (by assumption))))
 rename_i v1 h1
 have hg1:=br (RR (by assumption)) h1
 repeat' first
  |exact⟨_,rfl,by assumption⟩
  |(split;(rename_i h;exact absurd h (by obtain⟨b,e⟩:=hc _;rw[e];simp)))
  |(split;(rename_i h;exact absurd h (bZ (ay (by assumption))));rename_i v h;obtain⟨hd,hg⟩:=br (ay (by assumption)) h)
  |(first|(split;rotate_left;(rename_i h;exact absurd h (lE (by assumption) (by simp) (by first|assumption|simp))))|(split;(rename_i h;exact absurd h (rP (by assumption) (by simp) (by first|assumption|simp)));rename_i v h))
  |split
end Go.Proofs.YtckljdhdadiphaaGreatDoor
namespace Go.Proofs.YtckljdhdadiphaaGreatDoor
open Go.RowKit
set_option linter.unusedVariables false
set_option linter.unusedSimpArgs false
theorem TY(m0:ar.T)(nodes:List aA.T)(act:List Int)(modes:List aG.T)(slots:List ao.T)(c mo r n:Int)(nx:List Int)(hn:n≤1000):∀(k:Nat) (s:ah.T) (durs:List Int) (j:Int),aI s→0≤j→j+(k:Int)=n→(durs.length:Int)=j→
  ∃s' d',ac fI (s,m0,nodes,act,modes,slots,c,mo,(r,n,nx,()),durs,j,())=some (.inl (s',m0,nodes,act,modes,slots,c,mo,(r,n,nx,()),d',()))∧aI s'∧(d'.length:Int)=n
 |0,s,durs,j,hs,h0,hk,hl=>by
  refine⟨s,durs, ?_,hs,by omega⟩
  rw[aj]
  simp only[fI,rQ (show ¬j<n by omega)]
 |k+1,s,durs,j,hs,h0,hk,hl=>by
  obtain⟨y,hy,hd,hg⟩:=ay (n:=100) hs
  have hy:aa ((s.1,s.2.1,s.2.2.1,()),(100:Int),())=some y:=hy
  obtain⟨s',d',h1,h2,h3⟩:=TY m0 nodes act modes slots c mo r n nx hn k (y.2.1.1,y.2.1.2.1,y.2.1.2.2.1,()) (durs++ [(IntKind.i64.wrap ((260:Int)+y.1))]) (j+1) hg (by omega) (by omega) (by simp;omega)
  refine⟨s',d', ?_,h2,h3⟩
  rw[aj]
  simp only[fI,pe (show j<n by omega),hy,JR h0 (show j<n by omega) (by omega)]
  rw[aC (by simp;omega)]
  exact h1
theorem XY {α:Type}{l:List α}{j:Int}(h0:0≤j)(hl:1≤l.length):∃y,av l (Int.tmod j (l.length:Int))=some y∧l[(Int.tmod j (l.length:Int)).toNat]? =some y:=by
 have h:=vQ (m:=j) (n:=(l.length:Int)) h0 (by omega)
 have hlt:(Int.tmod j (l.length:Int)).toNat<l.length:=by omega
 refine⟨l[(Int.tmod j (l.length:Int)).toNat], ?_,List.getElem?_eq_getElem hlt⟩
 unfold av
 rw[if_pos h.1,List.getElem?_eq_getElem hlt]
theorem aaV {α:Type}{l:List α}{j:Int}(h0:0≤j)(hl:j<(l.length:Int)):∃y,av l j=some y∧l[j.toNat]? =some y:=by
 have hlt:j.toNat<l.length:=by omega
 refine⟨l[j.toNat], ?_,List.getElem?_eq_getElem hlt⟩
 unfold av
 rw[if_pos h0,List.getElem?_eq_getElem hlt]
theorem RS(m0:ar.T)(nodes:List aA.T)(act:List Int)(modes:List aG.T)(c mo r n:Int)(nx durs:List Int)(rd:Int)(hn:n≤1000)(ha:1≤act.length)(ha2:act.length≤1000)(hd:(durs.length:Int)=n):∀(k:Nat) (s:ah.T) (slots:List ao.T) (j:Int),aI s→0≤j→j+(k:Int)=n→slots.length+k≤100000→
  ∃s' slots',ac eJ (s,m0,nodes,act,modes,slots,c,mo,(r,n,nx,()),durs,rd,j,())=some (.inl (s',m0,nodes,act,modes,slots',c,mo,(r,n,nx,()),durs,rd,()))∧aI s'∧slots'.length=slots.length+k
 |0,s,slots,j,hs,h0,hk,hl=>by
  refine⟨s,slots, ?_,hs,by omega⟩
  rw[aj]
  simp only[eJ,rQ (show ¬j<n by omega)]
 |k+1,s,slots,j,hs,h0,hk,hl=>by
  obtain⟨y,hy,hg⟩:=RR hs
  have hy:pB ((s.1,s.2.1,s.2.2.1,()),())=some y:=hy
  obtain⟨z,hz1,hz2⟩:=XY (l:=act) h0 ha
  obtain⟨d,hd1,hd2⟩:=aaV (l:=durs) h0 (by omega)
  have hne:((act.length:Int)=0)=False:=by
   have:¬((act.length:Int)=0):=by omega
   simp only[this]
  have key:∀u:ao.T,∃s' slots',ac eJ ((y.2.1.1,y.2.1.2.1,y.2.1.2.2.1,()),m0,nodes,act,modes,slots++ [u],c,mo,(r,n,nx,()),durs,rd,j+1,())=some (.inl (s',m0,nodes,act,modes,slots',c,mo,(r,n,nx,()),durs,rd,()))∧aI s'∧slots'.length=slots.length+(k+1):=fun u=>by
   obtain⟨s',slots',h1,h2,h3⟩:=RS m0 nodes act modes c mo r n nx durs rd hn ha ha2 hd k (y.2.1.1,y.2.1.2.1,y.2.1.2.2.1,()) (slots++ [u]) (j+1) hg (by omega) (by omega) (by simp;omega)
   exact⟨s',slots',h1,h2,by rw[h3];simp;omega⟩
  have hr:∀ {R:Type} (u:ao.T) (q:Option R),aH (slots.length+ [u].length) q=q:=fun u q=>aC (by simp;omega)
  have hB:∃u,eJ (s,m0,nodes,act,modes,slots,c,mo,(r,n,nx,()),durs,rd,j,())=some (.inl ((y.2.1.1,y.2.1.2.1,y.2.1.2.2.1,()),m0,nodes,act,modes,slots++ [u],c,mo,(r,n,nx,()),durs,rd,j+1,())):=by
   simp only[eJ,pe (show j<n by omega),hy,hz1,hz2,hd1,hd2,ab,hne,if_false,JR h0 (show j<n by omega) (by omega),hr]
   repeat' first
    |exact⟨_,rfl⟩
    |split
  obtain⟨u,hB⟩:=hB
  obtain⟨s',slots',h1,h2,h3⟩:=key u
  refine⟨s',slots', ?_,h2,h3⟩
  rw[aj,hB]
  exact h1
theorem OK(m0:ar.T)(nodes:List aA.T)(act:List Int)(modes:List aG.T)(c mo r n:Int)(nx durs:List Int)(hn:n≤1000)(hn0:0≤n)(hr:r≤10)(ha:1≤act.length)(ha2:act.length≤1000)(hd:(durs.length:Int)=n):∀(k:Nat) (s:ah.T) (slots:List ao.T) (rd:Int),aI s→0≤rd→rd+(k:Int)=r→slots.length+k*1000≤100000→
  ∃s' slots',ac fJ (s,m0,nodes,act,modes,slots,c,mo,(r,n,nx,()),durs,rd,())=some (.inl (s',m0,nodes,act,modes,slots',c,mo,()))∧aI s'∧slots'.length=slots.length+k*n.toNat
 |0,s,slots,rd,hs,h0,hk,hl=>by
  refine⟨s,slots, ?_,hs,by omega⟩
  rw[aj]
  simp only[fJ,rQ (show ¬rd<r by omega)]
 |k+1,s,slots,rd,hs,h0,hk,hl=>by
  obtain⟨s1,sl1,e1,g1,l1⟩:=RS m0 nodes act modes c mo r n nx durs rd hn ha ha2 hd n.toNat s slots 0 hs (by omega) (by omega) (by omega)
  obtain⟨s',slots',h1,h2,h3⟩:=OK m0 nodes act modes c mo r n nx durs hn hn0 hr ha ha2 hd k s1 sl1 (rd+1) g1 (by omega) (by omega) (by omega)
  refine⟨s',slots', ?_,h2,by rw[h3,l1,Nat.add_mul];omega⟩
  have e1:ac eJ ((s.1,s.2.1,s.2.2.1,()),(m0.1,m0.2.1,m0.2.2.1,m0.2.2.2.1,()),nodes,act,modes,slots,c,mo,(r,n,nx,()),durs,rd,(0:Int),())=_:=e1
  rw[aj]
  simp only[fJ,pe (show rd<r by omega),e1,JR h0 (show rd<r by omega) (by omega)]
  exact h1
theorem RT(m0:ar.T)(nodes:List aA.T)(act:List Int)(c:Int)(hc:c≤2)(ha:1≤act.length)(ha2:act.length≤32):∀(k:Nat) (s:ah.T) (modes:List aG.T) (slots:List ao.T) (mo:Int),aI s→0≤mo→mo+(k:Int)=c→slots.length+k*2000≤10000→modes.length+k≤10→(∀v ∈ modes,v.2.2.1.length≤10)→
  ∃s' modes' slots',ac dP (s,m0,nodes,act,modes,slots,c,mo,())=some (.inl (s',m0,nodes,modes',slots',()))∧(aI s'∧modes'.length≤10∧(∀v ∈ modes',v.2.2.1.length≤10)∧slots.length+k≤slots'.length∧slots'.length≤10000∧modes'.length=modes.length+k)
 |0,s,modes,slots,mo,hs,h0,hk,hl,hm,hv=>by
  refine⟨s,modes,slots, ?_,hs,by omega,hv,by omega,by omega,by omega⟩
  rw[aj]
  simp only[dP,rQ (show ¬mo<c by omega)]
 |k+1,s,modes,slots,mo,hs,h0,hk,hl,hm,hv=>by
  obtain⟨y,hy,hd,hg⟩:=ay (n:=2) hs
  have hy:aa ((s.1,s.2.1,s.2.2.1,()),(2:Int),())=some y:=hy
  obtain⟨z,hz,hd2,hg2⟩:=ay (n:=2) hg
  obtain⟨a,ha1,ha3⟩:=cb hd (by omega)
  obtain⟨b,hb1,hb2⟩:=cb hd2 (by omega)
  have e1:IntKind.i64.wrap ((1:Int)+(a:Int))=(1:Int)+(a:Int):=ai (by omega) (by omega)
  have e2:IntKind.i64.wrap ((act.length:Int)+(b:Int))=(act.length:Int)+(b:Int):=ai (by omega) (by omega)
  have e3:IntKind.i64.wrap (mo+1)=mo+1:=JR h0 (show mo<c by omega) (by omega)
  have hr:∀ {R:Type} (u:aG.T) (q:Option R),aH (modes.length+ [u].length) q=q:=fun u q=>aC (by simp;omega)
  have key:∀nx:List Int,nx.length≤10→∃s1 d1 s2 sl2,ac fI ((z.2.1.1,z.2.1.2.1,z.2.1.2.2.1,()),(m0.1,m0.2.1,m0.2.2.1,m0.2.2.2.1,()),nodes,act,modes++ [((1:Int)+(a:Int),(act.length:Int)+(b:Int),nx,())],slots,c,mo,((1:Int)+(a:Int),(act.length:Int)+(b:Int),nx,()),[],(0:Int),())=some (.inl (s1,m0,nodes,act,modes++ [((1:Int)+(a:Int),(act.length:Int)+(b:Int),nx,())],slots,c,mo,((1:Int)+(a:Int),(act.length:Int)+(b:Int),nx,()),d1,()))∧
    ac fJ ((s1.1,s1.2.1,s1.2.2.1,()),(m0.1,m0.2.1,m0.2.2.1,m0.2.2.2.1,()),nodes,act,modes++ [((1:Int)+(a:Int),(act.length:Int)+(b:Int),nx,())],slots,c,mo,((1:Int)+(a:Int),(act.length:Int)+(b:Int),nx,()),d1,(0:Int),())=some (.inl (s2,m0,nodes,act,modes++ [((1:Int)+(a:Int),(act.length:Int)+(b:Int),nx,())],sl2,c,mo,()))∧
    ∃s' modes' slots',ac dP (s2,m0,nodes,act,modes++ [((1:Int)+(a:Int),(act.length:Int)+(b:Int),nx,())],sl2,c,mo+1,())=some (.inl (s',m0,nodes,modes',slots',()))∧(aI s'∧modes'.length≤10∧(∀v ∈ modes',v.2.2.1.length≤10)∧slots.length+(k+1)≤slots'.length∧slots'.length≤10000∧modes'.length=modes.length+(k+1)):=fun nx hnx=>by
   obtain⟨s1,d1,q1,q2,q3⟩:=TY m0 nodes act (modes++ [((1:Int)+(a:Int),(act.length:Int)+(b:Int),nx,())]) slots c mo ((1:Int)+(a:Int)) ((act.length:Int)+(b:Int)) nx (by omega) (act.length+b) _ [] 0 hg2 (by omega) (by omega) rfl
   have hsl:slots.length+(1+a)*1000≤100000:=Nat.le_trans (Nat.add_le_add_left (Nat.mul_le_mul_right 1000 (show 1+a≤10 by omega)) _) (show slots.length+10000≤100000 by omega)
   obtain⟨s2,sl2,p1,p2,p3⟩:=OK m0 nodes act (modes++ [((1:Int)+(a:Int),(act.length:Int)+(b:Int),nx,())]) c mo ((1:Int)+(a:Int)) ((act.length:Int)+(b:Int)) nx d1 (by omega) (by omega) (by omega) ha (by omega) q3 (1+a) s1 slots 0 q2 (by omega) (by omega) hsl
   have ht:((act.length:Int)+(b:Int)).toNat=act.length+b:=by omega
   rw[ht]at p3
   have hge:1+a+slots.length≤slots.length+(1+a)*(act.length+b):=by
    have:=Nat.mul_le_mul_left (1+a) (show 1≤act.length+b by omega)
    omega
   have hle:(1+a)*(act.length+b)≤2*33:=Nat.mul_le_mul (by omega) (by omega)
   obtain⟨s',modes',slots',h1,h2,h3,h4,h5,h6,h7⟩:=RT m0 nodes act c hc ha ha2 k s2 (modes++ [((1:Int)+(a:Int),(act.length:Int)+(b:Int),nx,())]) sl2 (mo+1) p2 (by omega) (by omega) (by omega) (by simp;omega) (fun v hv'=>by
    rcases List.mem_append.1 hv' with h|h
    ·exact hv v h
    ·simp only[List.mem_singleton]at h
     subst h
     exact hnx)
   refine⟨s1,d1,s2,sl2,q1,p1,s',modes',slots',h1,h2,h3,h4,by omega,h6,by rw[h7];simp;omega⟩
  by_cases h1:c>1
  ·obtain⟨s1,d1,s2,sl2,q1,q2,s',modes',slots',q3,q4⟩:=key [(IntKind.i64.wrap ((1:Int)-mo))] (by simp)
   refine⟨s',modes',slots', ?_,q4⟩
   rw[aj]
   simp only[dP,pe (show mo<c by omega),hy,hz,ha1,hb1,e1,e2,e3,decide_eq_true h1,hr,q1,q2]
   exact q3
  ·obtain⟨s1,d1,s2,sl2,q1,q2,s',modes',slots',q3,q4⟩:=key [] (by simp)
   refine⟨s',modes',slots', ?_,q4⟩
   rw[aj]
   simp only[dP,pe (show mo<c by omega),hy,hz,ha1,hb1,e1,e2,e3,decide_eq_false h1,hr,q1,q2]
   exact q3
theorem NW:∀(l:List aA.T) (v k:Nat),(v.testBit k=true∨∃n ∈ l,n.2.2.2.1=false∧n.1.toNat=k)→(l.foldl pb v).testBit k=true
 | [],v,k,h=>by
   rcases h with h|⟨n,hn,_⟩
   ·exact h
   ·cases hn
 |n::r,v,k,h=>by
  refine NW r (pb v n) k ?_
  rcases h with h|⟨m,hm,h1,h2⟩
  ·left
   unfold pb
   split
   ·exact h
   ·rw[Nat.testBit_or,h];rfl
  ·rcases List.mem_cons.1 hm with rfl|hm
   ·left
    unfold pb
    rw[h1,if_neg (by simp),Nat.testBit_or,Nat.testBit_two_pow,h2]
    simp
   ·exact .inr ⟨m,hm,h1,h2⟩
theorem WC {l:List aA.T}(hp:∀v ∈ l,qJ v):∀n ∈ l,∃k:Nat,k<32∧n.1=(k:Int):=fun n hn=>RG _ (hp n hn).1 (hp n hn).2.1
theorem WD {l:List aA.T}(hp:∀v ∈ l,qJ v):∀s,∀n ∈ l,s<4294967296→pb s n<4294967296:=by
 intro s n hn hs
 obtain⟨k,hk,e⟩:=WC hp n hn
 unfold pb
 split
 ·exact hs
 ·rw[e];exact NJ s k hs hk
theorem aaW {l:List aA.T}(hl:l.length≤100)(hp:∀v ∈ l,qJ v)(hh:∃n ∈ l,n.2.2.2.1=false):∃a A,cQ (l,())=some (a,())∧ja (a,())=some (A,0,())∧1≤A.length∧A.length≤32:=by
 have hid:=WC hp
 have e:=o9 (B:=cX) l (fun(s:Nat) i=>(l,(s:Int),(i:Int),())) pb (fun s=>.inl ((s:Int),())) (fun s=>s<4294967296) (WD hp) (fun s _=>by simp only[cX,bu]) (fun s i hi hs=>by
  obtain⟨k,hk,e⟩:=hid _ (List.getElem_mem hi)
  have ho:=UY s k hs hk
  simp only[cX,bj hi,aL hi (show l.length≤1099511627776 by omega),au hi,ab,e,ho,pb,Int.toNat_natCast]
  cases l[i].2.2.2.1<;>rfl) l.length 0 0 (by omega) (by omega)
 have e':ac cX (l,(0:Int),(0:Int),())=_:=e
 have hlt:cL l<4294967296:=pG (P:=fun s=>s<4294967296) l 0 (WD hp) (by omega)
 have h1:cQ (l,())=some ((cL l:Int),()):=by
  unfold cQ
  simp only[e',List.drop_zero]
  rfl
 have h2:=Ox (cL l:Int)
 rw[if_pos (bc.2 ⟨by omega,by omega⟩)]at h2
 refine⟨_,_,h1,h2, ?_, ?_⟩
 ·obtain⟨n,hn,hn2⟩:=hh
  obtain⟨k,hk,ek⟩:=hid n hn
  have hb:=NW l 0 k (.inr ⟨n,hn,hn2,by rw[ek];rfl⟩)
  rw[zh,←vE]
  have hm:k ∈ (List.range 32).filter (fun k=>((cL l:Int).toNat / 2^k) % 2==1):=by
   rw[List.mem_filter]
   refine⟨List.mem_range.2 hk, ?_⟩
   have:nP (cL l) k=true:=by rw[JP];exact hb
   exact this
  exact List.length_pos_of_mem hm
 ·rw[zh,←vE]
  exact Nat.le_trans (List.length_filter_le _ _) (by simp)
def xB(m:ar.T):Prop:=xA m.2.1∧tz m.2.2.1∧m.2.2.2.1.length≤10000
theorem mN {m:ar.T}(h:xB m):eM m:=by
 obtain⟨⟨h1,h2⟩,⟨h3,h4⟩,h5⟩:=h
 exact⟨by omega,fun v hv=>Nat.le_trans (h2 v hv) (by omega),by omega,fun v hv=>Nat.le_trans (h4 v hv) (by omega),by omega⟩
theorem WE {s:ah.T}(hs:aI s):∃y,yn (s,())=some y∧(aI (y.2.1.1,y.2.1.2.1,y.2.1.2.2.1,())∧xB y.1∧1≤y.1.2.2.2.1.length):=by
 have hs:=cM hs
 unfold yn
 simp only
 split;(rename_i h;exact absurd h (bZ (ay (by assumption))))
 rename_i v1 h1
 obtain⟨hd1,hg1⟩:=br (ay (by assumption)) h1
 split
 ·unfold y7
  refine⟨_,rfl,hg1,⟨⟨by simp, ?_⟩,⟨by simp, ?_⟩,by simp⟩,by simp⟩
  ·intro v hv
   simp only[List.mem_cons,List.not_mem_nil,or_false]at hv
   rcases hv with rfl|rfl<;>simp
  ·intro v hv
   simp only[List.mem_cons,List.not_mem_nil,or_false]at hv
   rcases hv with rfl|rfl<;>simp
 ·split;(rename_i h;exact absurd h (bZ (L3 (by assumption))))
  rename_i v3 h3
  obtain⟨hg3,hl3,hp3,hn3⟩:=br (L3 (by assumption)) h3
  obtain⟨n0,r0,e0⟩:∃n r,v3.1=n::r:=by
   cases hv:v3.1 with
   |nil=>rw[hv]at hp3;simp at hp3
   |cons n r=>exact⟨n,r,rfl⟩
  have ei:av v3.1 (0:Int)=some n0:=by rw[e0];rfl
  have eg:v3.1[(0:Int).toNat]? =some n0:=by rw[e0];rfl
  have es:∀u:aA.T,v3.1.set ((0:Int).toNat) u=u::r0:=fun u=>by rw[e0];rfl
  simp only[ei,ab,eg,es]
  have hall:∀v ∈ ((n0.1,n0.2.1,n0.2.2.1,false,()):aA.T)::r0,qJ v:=by
   intro v hv
   rcases List.mem_cons.1 hv with rfl|hv
   ·exact hn3 n0 (by rw[e0];simp)
   ·exact hn3 v (by rw[e0];simp[hv])
  have hlen:(((n0.1,n0.2.1,n0.2.2.1,false,()):aA.T)::r0).length≤4:=by rw[e0]at hl3;simpa using hl3
  have key:∀L:List aA.T,L.length≤4→(∀v ∈ L,qJ v)→(∃n ∈ L,n.2.2.2.1=false)→∃y,(match cQ (L,())with
    |none=>none
    |some v7=>match ja (v7.1,())with
     |none=>none
     |some v8=>match aa ((v3.2.1.1,v3.2.1.2.1,v3.2.1.2.2.1,()),(2:Int),())with
      |none=>none
      |some v9=>match ac dP ((v9.2.1.1,v9.2.1.2.1,v9.2.1.2.2.1,()),((0:Int),[],[],[],()),L,v8.1,[],[],(IntKind.i64.wrap ((1:Int)+v9.1)),(0:Int),())with
       |none=>none
       |some (.inl v24)=>match aa ((v24.1.1,v24.1.2.1,v24.1.2.2.1,()),(5000:Int),())with
        |none=>none
        |some v26=>some (((IntKind.i64.wrap ((1:Int)+v26.1)),v24.2.2.1,v24.2.2.2.1,v24.2.2.2.2.1,()),(v26.2.1.1,v26.2.1.2.1,v26.2.1.2.2.1,()),())
       |some (.inr v27)=>none:Option (Ty.T (.pair (.pair (.int .i64) (.pair (.own 136 aA) (.pair (.own 159 aG) (.pair (.own 167 ao) .unit)))) (.pair (.box ah) .unit))))=some y∧(aI (y.2.1.1,y.2.1.2.1,y.2.1.2.2.1,())∧xB y.1∧1≤y.1.2.2.2.1.length):=fun L hL hLp hLh=>by
   obtain⟨a,A,e1,e2,hA1,hA2⟩:=aaW (by omega) hLp hLh
   obtain⟨v9,e3,hd9,hg9⟩:=ay (n:=2) hg3
   obtain⟨b,hb,hb2⟩:=cb hd9 (by omega)
   have ew:IntKind.i64.wrap ((1:Int)+(b:Int))=(1:Int)+(b:Int):=ai (by omega) (by omega)
   obtain⟨s',m',sl',e4,hg',hm1,hm2,hsl,hsl2,hm3⟩:=RT ((0:Int),[],[],[],()) L A ((1:Int)+(b:Int)) (by omega) hA1 hA2 (1+b) (v9.2.1.1,v9.2.1.2.1,v9.2.1.2.2.1,()) [] [] 0 hg9 (by omega) (by omega) (by simp;omega) (by simp;omega) (fun v hv=>by cases hv)
   obtain⟨v26,e5,hd26,hg26⟩:=ay (n:=5000) hg'
   have e5:aa ((s'.1,s'.2.1,s'.2.2.1,()),(5000:Int),())=some v26:=e5
   simp only[e1,e2,e3,hb,ew,e4,e5]
   refine⟨_,rfl,hg26,⟨⟨by show L.length≤100;omega,fun v hv=>Nat.le_trans (hLp v hv).2.2 (by omega)⟩,⟨by show m'.length≤100;omega,fun v hv=>Nat.le_trans (hm2 v hv) (by omega)⟩,hsl2⟩, ?_⟩
   show 1≤sl'.length
   simp at hsl
   omega
  split
  ·rename_i hgt
   have hbd:aM (((n0.1,n0.2.1,n0.2.2.1,false,()):aA.T)::r0).length none (some (.dat (.int .i64) (3:Int)))=some (0,3):=km (a:=3) (by simp at hgt;simp;omega)
   rw[hbd]
   exact key _ (by rw[List.length_take];omega) (fun v hv=>hall v (List.mem_of_mem_take hv)) ⟨(n0.1,n0.2.1,n0.2.2.1,false,()),by simp,rfl⟩
  ·exact key _ hlen hall ⟨(n0.1,n0.2.1,n0.2.2.1,false,()),by simp,rfl⟩
theorem RU(m0:ar.T)(id:Int)(nodes:List aA.T)(modes:List aG.T)(s:ah.T):∀(k:Nat) (slots:List ao.T) (j:Nat),slots.length≤10000→j+k=slots.length→
  ∃slots',ac dR (s,m0,(id,nodes,modes,slots,()),(j:Int),())=some (.inl (s,m0,(id,nodes,modes,slots',()),()))∧slots'.length=slots.length
 |0,slots,j,hl,hk=>by
  refine⟨slots, ?_,rfl⟩
  rw[aj]
  simp only[dR,rQ (show ¬(j:Int)<(slots.length:Int) by omega)]
 |k+1,slots,j,hl,hk=>by
  have hj:j<slots.length:=by omega
  have key:∀u:ao.T,∃slots',ac dR (s,m0,(id,nodes,modes,slots.set j u,()),((j+1:Nat):Int),())=some (.inl (s,m0,(id,nodes,modes,slots',()),()))∧slots'.length=slots.length:=fun u=>by
   obtain⟨s',h1,h2⟩:=RU m0 id nodes modes s k (slots.set j u) (j+1) (by simpa using hl) (by simp;omega)
   exact⟨s',h1,by simpa using h2⟩
  obtain⟨slots',h1,h2⟩:=key (slots[j].1,slots[j].2.1,slots[j].2.2.1,(slots[j].2.2.2.1.1,slots[j].2.2.2.1.2.1,slots[j].2.2.2.1.2.2.1,(1000:Int),slots[j].2.2.2.1.2.2.2.2.1,()),())
  refine⟨slots', ?_,h2⟩
  have hi:=au hj
  have hw:=aL hj (show slots.length≤1099511627776 by omega)
  rw[aj]
  simp only[dR,pe (show(j:Int)<(slots.length:Int) by omega),hi,ab,Int.toNat_natCast,List.getElem?_eq_getElem hj,hw]
  exact h1
theorem RV(m0:ar.T)(id:Int)(nodes:List aA.T)(R S:Int)(nx:List Int)(hR:0≤R∧R≤10)(hS:1≤S∧S≤100)(s:ah.T):∀(k:Nat) (slots:List ao.T) (j:Int),0≤j→j+(k:Int)=R*S→slots.length+k≤10000→
  ∃slots',ac cw (s,m0,(id,nodes,[(R,S,nx,())],[],()),slots,j,())=some (.inl (s,m0,(id,nodes,[(R,S,nx,())],[],()),slots',()))∧slots'.length=slots.length+k:=by
 have hRS:0≤R*S∧R*S≤1000:=by
  refine⟨Int.mul_nonneg hR.1 (by omega), ?_⟩
  have h1:R*S≤10*S:=Int.mul_le_mul_of_nonneg_right hR.2 (by omega)
  omega
 have hw:IntKind.i64.wrap (R*S)=R*S:=ai (by omega) (by omega)
 have hi:av [((R,S,nx,()):aG.T)] (0:Int)=some (R,S,nx,()):=rfl
 have hg: [((R,S,nx,()):aG.T)][(0:Int).toNat]? =some (R,S,nx,()):=rfl
 have hne:(S=0)=False:=by
  have:¬S=0:=by omega
  simp only[this]
 intro k
 induction k with
 |zero=>
  intro slots j h0 hk hl
  refine⟨slots, ?_,rfl⟩
  rw[aj]
  simp only[cw,hi,hg,ab,hw,rQ (show ¬j<R*S by omega)]
 |succ k ih=>
  intro slots j h0 hk hl
  have hr:∀ {Q:Type} (u:ao.T) (q:Option Q),aH (slots.length+ [u].length) q=q:=fun u q=>aC (by simp;omega)
  obtain⟨slots',h1,h2⟩:=ih (slots++ [((0:Int),(IntKind.i64.wrap (Int.tdiv j S)),(Int.tmod j S),((0:Int),(1:Int),(0:Int),(1000:Int),false,()),())]) (j+1) (by omega) (by omega) (by simp;omega)
  refine⟨slots', ?_,by rw[h2];simp;omega⟩
  rw[aj]
  simp only[cw,hi,hg,ab,hw,pe (show j<R*S by omega),hne,if_false,hr,cE,jI,JR h0 (show j<R*S by omega) (by omega)]
  exact h1
theorem OL {s:ah.T}(hs:aI s):∃y,qn (s,())=some y∧(aI (y.2.1.1,y.2.1.2.1,y.2.1.2.2.1,())∧tz y.1):=by
 have hs:=cM hs
 unfold qn
 simp only[ab]
 split;(rename_i h;exact absurd h (bZ (WA (by assumption))))
 rename_i v1 h1
 obtain⟨hg1,hS10,hp1,hl1⟩:=br (WA (by assumption)) h1
 have hS:tz v1.1:=⟨by omega,fun v hv=>Nat.le_trans (hS10 v hv) (by omega)⟩
 split;(rename_i h;exact absurd h (bZ (ay (by assumption))))
 rename_i v2 h2
 obtain⟨hd2,hg2⟩:=br (ay (by assumption)) h2
 split;(rename_i h;exact absurd h (bZ (ay (by assumption))))
 rename_i v3 h3
 obtain⟨hd3,hg3⟩:=br (ay (by assumption)) h3
 obtain⟨u,hu1,hu2,hu3⟩:=pick v1.1 hd2 (by omega) hp1
 obtain⟨v4,h4,hd4,hg4⟩:=ay (n:=3) hg3
 obtain⟨w,hw1,hw2,hw3⟩:=pick [v2.1,(v1.1.length:Int),(0:Int)] hd4 (by simp) (by simp)
 have hu10:=hS10 u hu3
 have hu:=hS.2 u hu3
 have hr:∀ {Q:Type} (z:Int) (q:Option Q),aH (u.2.2.1.length+ [z].length) q=q:=fun z q=>aC (by simp;omega)
 have hu2':(u.2.2.1++ [w]).length≤100:=by simp;omega
 simp only[hu1,hu2,h4,hw1,hw2,hr,if_true,cE,jI]
 repeat' first
  |exact⟨_,rfl,by assumption,by assumption⟩
  |exact⟨_,rfl,by assumption,L4 hS hu⟩
  |exact⟨_,rfl,by assumption,L4 hS hu2'⟩
  |exact⟨_,rfl,by assumption,U6⟩
  |exact⟨_,rfl,by assumption,U7 (by decide) (Nat.zero_le _)⟩
  |(split;(rename_i h;exact absurd h (bZ (ay (by assumption))));rename_i v h;obtain⟨hd,hg⟩:=br (ay (by assumption)) h)
  |(first|(split;rotate_left;(rename_i h;exact absurd h (lE (by assumption) (by simp) (by first|assumption|simp))))|(split;(rename_i h;exact absurd h (rP (by assumption) (by simp) (by first|assumption|simp)));rename_i v h))
  |split
theorem WF {s:ah.T}(hs:aI s):∃y,mz (s,())=some y∧(aI (y.2.1.1,y.2.1.2.1,y.2.1.2.2.1,())∧xB y.1):=by
 have hs:=cM hs
 unfold mz
 simp only[ab]
 split;(rename_i h;exact absurd h (bZ (WE (by assumption))))
 rename_i v1 h1
 obtain⟨hg1,hS,hp1⟩:=br (WE (by assumption)) h1
 obtain⟨hN,hM,hL⟩:=hS
 split;(rename_i h;exact absurd h (bZ (ay (by assumption))))
 rename_i v2 h2
 obtain⟨hd2,hg2⟩:=br (ay (by assumption)) h2
 split;(rename_i h;exact absurd h (bZ (ay (by assumption))))
 rename_i v3 h3
 obtain⟨hd3,hg3⟩:=br (ay (by assumption)) h3
 obtain⟨u,hu1,hu2,hu3⟩:=pick v1.1.2.2.2.1 hd2 (by omega) hp1
 have hlt:v2.1.toNat<v1.1.2.2.2.1.length:=(List.getElem?_eq_some_iff.1 hu2).1
 have h0:0≤v2.1:=hd2.1
 have iset:∀w:ao.T,av (v1.1.2.2.2.1.set v2.1.toNat w) v2.1=some w:=fun w=>by
  unfold av
  rw[if_pos h0,List.getElem?_set_self hlt]
 have gset:∀w:ao.T,(v1.1.2.2.2.1.set v2.1.toNat w)[v2.1.toNat]? =some w:=fun w=>List.getElem?_set_self hlt
 have hb:aM v1.1.2.2.2.1.length (some (.dat (.int .i64) (1:Int))) none=some (1,v1.1.2.2.2.1.length):=by
  simp only[aM,jJ,jl]
  rw[if_pos ⟨by omega,by omega,by omega⟩]
  simp
 obtain⟨sl,hlong,hlong2⟩:=RU ((0:Int),[],[],[],()) v1.1.1 v1.1.2.1 v1.1.2.2.1 (v3.2.1.1,v3.2.1.2.1,v3.2.1.2.2.1,()) v1.1.2.2.2.1.length v1.1.2.2.2.1 0 hL (by omega)
 have hlong:ac dR ((v3.2.1.1,v3.2.1.2.1,v3.2.1.2.2.1,()),((0:Int),[],[],[],()),(v1.1.1,v1.1.2.1,v1.1.2.2.1,v1.1.2.2.2.1,()),(0:Int),())=_:=hlong
 have hf1:∀s:ah.T,∃sl,ac cw (s,((0:Int),[],[],[],()),((3:Int),[((0:Int),([97]:List UInt8),(0:Int),false,())],[((3:Int),(11:Int),[],())],[],()),[],(0:Int),())=some (.inl (s,((0:Int),[],[],[],()),((3:Int),[((0:Int),([97]:List UInt8),(0:Int),false,())],[((3:Int),(11:Int),[],())],[],()),sl,()))∧sl.length≤10000:=fun s=>by
  obtain⟨sl,e1,e2⟩:=RV ((0:Int),[],[],[],()) (3:Int) [((0:Int),([97]:List UInt8),(0:Int),false,())] 3 11 [] (by omega) (by omega) s 33 [] 0 (by omega) (by omega) (by simp)
  exact⟨sl,e1,by rw[e2];simp⟩
 have hf2:∀s:ah.T,∃sl,ac cw (s,((0:Int),[],[],[],()),((3:Int),[((0:Int),([97]:List UInt8),(0:Int),false,())],[((2:Int),(16:Int),[],())],[],()),[],(0:Int),())=some (.inl (s,((0:Int),[],[],[],()),((3:Int),[((0:Int),([97]:List UInt8),(0:Int),false,())],[((2:Int),(16:Int),[],())],[],()),sl,()))∧sl.length≤10000:=fun s=>by
  obtain⟨sl,e1,e2⟩:=RV ((0:Int),[],[],[],()) (3:Int) [((0:Int),([97]:List UInt8),(0:Int),false,())] 2 16 [] (by omega) (by omega) s 32 [] 0 (by omega) (by omega) (by simp)
  exact⟨sl,e1,by rw[e2];simp⟩
 obtain⟨g1f,hg1f⟩:∃g:ah.T→List ao.T,∀s:ah.T,ac cw (s,((0:Int),[],[],[],()),((3:Int),[((0:Int),([97]:List UInt8),(0:Int),false,())],[((3:Int),(11:Int),[],())],[],()),[],(0:Int),())=some (.inl (s,((0:Int),[],[],[],()),((3:Int),[((0:Int),([97]:List UInt8),(0:Int),false,())],[((3:Int),(11:Int),[],())],[],()),(g s),()))∧(g s).length≤10000:=⟨fun s=>Classical.choose (hf1 s),fun s=>Classical.choose_spec (hf1 s)⟩
 have hf1a:=fun s=>(hg1f s).1
 have hf1b:=fun s=>(hg1f s).2
 obtain⟨g2f,hg2f⟩:∃g:ah.T→List ao.T,∀s:ah.T,ac cw (s,((0:Int),[],[],[],()),((3:Int),[((0:Int),([97]:List UInt8),(0:Int),false,())],[((2:Int),(16:Int),[],())],[],()),[],(0:Int),())=some (.inl (s,((0:Int),[],[],[],()),((3:Int),[((0:Int),([97]:List UInt8),(0:Int),false,())],[((2:Int),(16:Int),[],())],[],()),(g s),()))∧(g s).length≤10000:=⟨fun s=>Classical.choose (hf2 s),fun s=>Classical.choose_spec (hf2 s)⟩
 have hf2a:=fun s=>(hg2f s).1
 have hf2b:=fun s=>(hg2f s).2
 have hone:xA [((0:Int),([97]:List UInt8),(0:Int),false,())]:=⟨by simp,fun v hv=>by simp only[List.mem_singleton]at hv;subst hv;simp⟩
 have hmo:∀a b:Int,tz [(a,b,([]:List Int),())]:=fun a b=>⟨by simp,fun v hv=>by simp only[List.mem_singleton]at hv;subst hv;simp⟩
 simp only[hu1,hu2,iset,gset,hb,hlong,cE,jI,List.set_set,hf1a,hf2a]
 repeat' first
  |exact⟨_,rfl,by assumption,by assumption,by assumption,by assumption⟩
  |exact⟨_,rfl,by assumption,hN,hM,by first|(rw[List.length_set];exact hL)|(simp only[List.length_set];exact hL)|(show sl.length≤10000;omega)|(simp;omega)⟩
  |(split;(rename_i h;exact absurd h (bZ (OI (by assumption))));rename_i v h;obtain⟨hg,hq⟩:=br (OI (by assumption)) h)
  |(split;(rename_i h;exact absurd h (bZ (OL (by assumption))));rename_i v h;obtain⟨hg,hq⟩:=br (OL (by assumption)) h)
  |(split;(rename_i h;exact absurd h (bZ (OJ (by assumption))));rename_i v h;have hg:=br (OJ (by assumption)) h)
  |exact⟨_,rfl,by assumption,hone,hmo _ _,hf1b _⟩
  |exact⟨_,rfl,by assumption,hone,hmo _ _,hf2b _⟩
  |(split;(rename_i h;exact absurd h (bZ (ay (by assumption))));rename_i v h;obtain⟨hd,hg⟩:=br (ay (by assumption)) h)
  |(first|(split;rotate_left;(rename_i h;exact absurd h (lE (by assumption) (by simp) (by first|assumption|simp))))|(split;(rename_i h;exact absurd h (rP (by assumption) (by simp) (by first|assumption|simp)));rename_i v h))
  |split
end Go.Proofs.YtckljdhdadiphaaGreatDoor
namespace Go.Proofs.YtckljdhdadiphaaGreatDoor
open Go.RowKit
set_option linter.unusedVariables false
set_option linter.unusedSimpArgs false
theorem XZ(v:Int):(IntKind.u64.wrap v<0)=False:=by
 have:¬IntKind.u64.wrap v<0:=by
  simp[IntKind.wrap,IntKind.signed,IntKind.bits]
  omega
 simp only[this]
theorem aaX {s:ah.T}(hs:aI s):∃y,yq (s,())=some y∧(aI (y.2.2.1.1,y.2.2.1.2.1,y.2.2.1.2.2.1,())∧xB y.1):=by
 obtain⟨v1,e1,hg1,hS⟩:=WF hs
 have e1:mz ((s.1,s.2.1,s.2.2.1,()),())=some v1:=e1
 obtain⟨v2,e2,hg2⟩:=TW hg1
 have e3:=Gf v1.1 (mN hS)
 have e3:ix ((v1.1.1,v1.1.2.1,v1.1.2.2.1,v1.1.2.2.2.1,()),())=_:=e3
 unfold yq
 simp only[e1,e2,e3,cE,jI,XZ,if_false]
 cases hm:bL v1.1 with
 |false=>exact⟨_,rfl,hg2,hS⟩
 |true=>
  obtain⟨_,hN,hM,_⟩:=jW hm
  have hlen:1≤v1.1.2.2.1.length:=by
   unfold fp at hM
   rw[Bool.and_eq_true]at hM
   have:=(bc.1 hM.1).1
   omega
  obtain⟨v4,e4,hd4,hg4⟩:=ay (n:=16) hg2
  obtain⟨v5,e5,hd5,hg5⟩:=ay (n:=65536) hg4
  obtain⟨v6,e6,hd6,hg6⟩:=ay (n:=(v1.1.2.2.1.length:Int)) hg5
  obtain⟨u,hu1,hu2,hu3⟩:=pick v1.1.2.2.1 hd6 (by omega) hlen
  obtain⟨v8,e8,hd8,hg8⟩:=ay (n:=30) hg6
  obtain⟨v9,e9,hd9,hg9⟩:=ay (n:=(IntKind.i64.wrap (u.1+(IntKind.i64.wrap (Int.tdiv v8.1 (29:Int)))))) hg8
  obtain⟨v11,e11,hd11,hg11⟩:=ay (n:=30) hg9
  obtain⟨v12,e12,hd12,hg12⟩:=ay (n:=(IntKind.i64.wrap (u.2.1+(IntKind.i64.wrap (Int.tdiv v11.1 (29:Int)))))) hg11
  have e13:=PH v1.1.2.1 hN
  obtain⟨v14,e14,hd14,hg14⟩:=ay (n:=3) hg12
  obtain⟨v15,e15,hd15,hg15⟩:=ay (n:=256) hg14
  obtain⟨v16,e16,hd16,hg16⟩:=ay (n:=30) hg15
  obtain⟨v17,e17,hd17,hg17⟩:=ay (n:=10) hg16
  obtain⟨w16,f16,kd16,kg16⟩:=ay (n:=30) hg14
  obtain⟨w17,f17,kd17,kg17⟩:=ay (n:=10) kg16
  simp only[Bool.not_true,e4,e5,e6,hu1,hu2,ab,e8,e9,e11,e12,e13,e14,e15,e16,e17,f16,f17,cE,jI]
  repeat' first
   |exact⟨_,rfl,by assumption,hS⟩
   |split
theorem aaY {m:ar.T}{st:ak.T}(a d:Nat)(ha:a<m.2.2.1.length)(hst:bq st=true)(h1:st.2.1=(a:Int))(h2:st.2.2.1<m.2.2.1[a].1)(h3:st.2.2.2.1<m.2.2.1[a].2.1)(h4:st.2.2.2.2.1=(d:Int))(h5:d&&& cL m.2.1=d):aP m st=true:=by
 unfold aP
 rw[hst,h1,Int.toNat_natCast,List.getElem?_eq_getElem ha,h4,Int.toNat_natCast]
 simp only[Bool.true_and,Bool.and_eq_true,decide_eq_true_eq]
 exact⟨h2,h3,h5⟩
end Go.Proofs.YtckljdhdadiphaaGreatDoor
namespace Go.Proofs.YtckljdhdadiphaaGreatDoor
open Go.RowKit
set_option linter.unusedVariables false
set_option linter.unusedSimpArgs false
theorem RX {a b c d e:Int}(h1:0≤a∧a≤65535)(h2:0≤b∧b≤15)(h3:0≤c∧c≤15)(h4:0≤d∧d≤255)(h5:0≤e∧e≤4294967295):bq (a,b,c,d,e,())=true:=by
 unfold bq
 simp only[bc.2 h1,bc.2 h2,bc.2 h3,bc.2 h4,bc.2 h5,Bool.and_self]
theorem eC {n v:Int}(h:drawn n v)(hn:1≤n):0≤v∧v≤n-1:=by
 obtain⟨h0,h1⟩:=h
 omega
theorem WG {s:ah.T}(hs:aI s):∃y,az (s,())=some y∧(aI (y.2.1.1,y.2.1.2.1,y.2.1.2.2.1,())∧bq y.1=true):=by
 obtain⟨v1,e1,d1,g1⟩:=ay (n:=200) hs
 have e1:aa ((s.1,s.2.1,s.2.2.1,()),(200:Int),())=some v1:=e1
 obtain⟨v2,e2,d2,g2⟩:=ay (n:=3) g1
 obtain⟨v3,e3,d3,g3⟩:=ay (n:=3) g2
 obtain⟨v4,e4,d4,g4⟩:=ay (n:=6) g3
 obtain⟨v5,e5,d5,g5⟩:=ay (n:=256) g4
 obtain⟨v6,e6,d6,g6⟩:=ay (n:=8) g5
 obtain⟨v7,e7,d7,g7⟩:=ay (n:=9) g6
 obtain⟨v8,e8,d8,g8⟩:=ay (n:=16) g7
 obtain⟨v9,e9,d9,g9⟩:=ay (n:=16) g8
 obtain⟨v10,e10,d10,g10⟩:=ay (n:=256) g9
 obtain⟨v11,e11,d11,g11⟩:=ay (n:=99) g10
 unfold az
 simp only[e1,e2,e3,e4,e5,e6,e7,e8,e9,e10,e11]
 have q1:=eC d1 (by omega)
 have q2:=eC d2 (by omega)
 have q3:=eC d3 (by omega)
 have q4:=eC d4 (by omega)
 have q5:=eC d5 (by omega)
 have q7:=eC d7 (by omega)
 have q8:=eC d8 (by omega)
 have q9:=eC d9 (by omega)
 have q10:=eC d10 (by omega)
 have q11:=eC d11 (by omega)
 have w7:IntKind.i64.wrap ((65535:Int)-v7.1)=65535-v7.1:=ai (by omega) (by omega)
 have w11:IntKind.i64.wrap ((4294967295:Int)-v11.1)=4294967295-v11.1:=ai (by omega) (by omega)
 rw[w7,w11]
 split
 ·exact⟨_,rfl,g11,RX (by omega) (by omega) (by omega) (by omega) (by omega)⟩
 ·exact⟨_,rfl,g6,RX (by omega) (by omega) (by omega) (by omega) (by omega)⟩
theorem zj(z f:ba.T):∀(k:Nat) (s:ah.T) (d:List Int),aI s→d.length+k≤10→(∀v ∈ d,0≤v∧v≤255)→∃(s':ah.T) (d':List Int),ac iB (s,z,f,d,(k:Int),())=some (.inl (s',z,f,d',()))∧aI s'∧d'.length=d.length+k∧∀v ∈ d',0≤v∧v≤255
 |0,s,d,hs,hl,hv=>by
  refine⟨s,d, ?_,hs,rfl,hv⟩
  rw[aj]
  simp only[iB,Cc]
 |k+1,s,d,hs,hl,hv=>by
  obtain⟨y,hy,hd,hg⟩:=ay (n:=256) hs
  have hy:aa ((s.1,s.2.1,s.2.2.1,()),(256:Int),())=some y:=hy
  have hq:=eC hd (by omega)
  obtain⟨s',d',h1,h2,h3,h4⟩:=zj z f k (y.2.1.1,y.2.1.2.1,y.2.1.2.2.1,()) (d++ [y.1]) hg (by simp;omega) (fun v hm=>by
   rcases List.mem_append.1 hm with hm|hm
   ·exact hv v hm
   ·simp only[List.mem_singleton]at hm
    subst hm
    omega)
  refine⟨s',d', ?_,h2,by rw[h3];simp;omega,h4⟩
  rw[aj]
  simp only[iB,Cb,hy,Ca (show k≤1000000 by omega)]
  rw[aC (by simp;omega)]
  exact h1
theorem Ce {k q:Int}{st:ak.T}{d:List Int}(hk:aY k 0 3=true)(hq:aY q 0 7=true)(hd:gD k d.length=true)(hv:∀v ∈ d,0≤v∧v≤255)(hl:d.length≤1024)
  (hs:(if k==(0:Int)then cS ak st ((0:Int),(0:Int),(0:Int),(0:Int),(0:Int),())else if k==(3:Int)then bq st&&((st.2.1==(0:Int))&&(tm st.2.2.2.2.1&&(q==(0:Int))))else bq st)=true):bA (k,q,st,d,())=true:=by
 have hb:dW d=true:=by
  unfold dW
  simp only[Bool.and_eq_true,decide_eq_true_eq,List.all_eq_true]
  exact⟨by omega,fun v hm=>bc.2 (hv v hm)⟩
 unfold bA
 simp only[hk,hq,hd,hb,Bool.true_and]
 exact hs
theorem WH {k:Nat}(h:k<32):tm ((2^k:Nat):Int)=true:=by
 have key:∀k:Fin 32,tm ((2^k.1:Nat):Int)=true:=by decide
 exact key ⟨k,h⟩
theorem aaZ {s:ah.T}(hs:aI s):∃y,sX (s,())=some y∧(aI (y.2.1.1,y.2.1.2.1,y.2.1.2.2.1,())∧y.1.2.2.2.1.length≤2000∧bA y.1=true):=by
 obtain⟨v1,e1,d1,g1⟩:=ay (n:=4) hs
 have e1:aa ((s.1,s.2.1,s.2.2.1,()),(4:Int),())=some v1:=e1
 obtain⟨v2,e2,d2,g2⟩:=ay (n:=8) g1
 obtain⟨v4,e4,g4,q4⟩:=WG g2
 obtain⟨v6,e6,d6,g6⟩:=ay (n:=6) g4
 obtain⟨a,ha,ha2⟩:=cb d6 (by omega)
 have wa:IntKind.i64.wrap ((1:Int)+(a:Int))=((a+1:Nat):Int):=by rw[ai]<;>omega
 obtain⟨v14,e14,d14,g14⟩:=ay (n:=6) g2
 obtain⟨b,hb,hb2⟩:=cb d14 (by omega)
 have wb:IntKind.i64.wrap ((1:Int)+(b:Int))=((b+1:Nat):Int):=by rw[ai]<;>omega
 obtain⟨s8,t8,e8,g8,l8,r8⟩:=zj ((0:Int),(0:Int),((0:Int),(0:Int),(0:Int),(0:Int),(0:Int),()),[],()) (v1.1,v2.1,(v4.1.1,v4.1.2.1,v4.1.2.2.1,v4.1.2.2.2.1,v4.1.2.2.2.2.1,()),[],()) (a+1) (v6.2.1.1,v6.2.1.2.1,v6.2.1.2.2.1,()) [] g6 (by simp;omega) (fun v hv=>by cases hv)
 obtain⟨s9,t9,e9,g9,l9,r9⟩:=zj ((0:Int),(0:Int),((0:Int),(0:Int),(0:Int),(0:Int),(0:Int),()),[],()) (v1.1,v2.1,((0:Int),(0:Int),(0:Int),(0:Int),(0:Int),()),[],()) (b+1) (v14.2.1.1,v14.2.1.2.1,v14.2.1.2.2.1,()) [] g14 (by simp;omega) (fun v hv=>by cases hv)
 obtain⟨v12,e12,d12,g12⟩:=ay (n:=10) g4
 obtain⟨c,hc,hc2⟩:=cb d12 (by omega)
 have l8:t8.length=a+1:=by simpa using l8
 have l9:t9.length=b+1:=by simpa using l9
 have q2:aY v2.1 0 7=true:=bc.2 (by have:=eC d2 (by omega);omega)
 obtain⟨P,hP⟩:∃P:Nat,P=2^c:=⟨_,rfl⟩
 have hP2:P≤2147483648:=by rw[hP];exact Nat.pow_le_pow_right (by decide) (show c≤31 by omega)
 have wk:IntKind.i64.wrap ((1:Int)*2^min (IntKind.u64.wrap (c:Int)).toNat IntKind.i64.bits)=(P:Int):=by
  have:(2:Int)^c=(P:Int):=by rw[hP,Int.natCast_pow];rfl
  rw[F9 (by omega),o5 (by omega),Int.one_mul,this,ai]<;>omega
 obtain⟨k,hk,hk2⟩:=cb d1 (by omega)
 have z00:((0:Int) != 0)=false:=rfl
 have hk4:k=0∨k=1∨k=2∨k=3:=by omega
 unfold sX dj
 rcases hk4 with rfl|rfl|rfl|rfl
 ·have x1:v1.1=(0:Int):=hk
  rw[x1]at e9
  have dd:fQ (0:Int)=true:=rfl
  have n3:((0:Int)==3)=false:=rfl
  simp only[e1,e2,x1,z00,tn,dd,e14,hb,wb,e9,n3]
  exact⟨_,rfl,g9,by show t9.length≤2000;omega,Ce rfl q2 (by unfold gD;exact bc.2 (by omega)) r9 (by omega) rfl⟩
 ·have x1:v1.1=(1:Int):=hk
  have dd:fQ (1:Int)=false:=rfl
  have z1:((1:Int) != 0)=true:=rfl
  have n3:((1:Int)==3)=false:=rfl
  simp only[e1,e2,x1,z1,tn,dd,e4,n3]
  exact⟨_,rfl,g4,Nat.zero_le _,Ce rfl q2 rfl (fun v hv=>by cases hv) (Nat.zero_le _) q4⟩
 ·have x1:v1.1=(2:Int):=hk
  rw[x1]at e8
  have dd:fQ (2:Int)=true:=rfl
  have z1:((2:Int) != 0)=true:=rfl
  have n3:((2:Int)==3)=false:=rfl
  simp only[e1,e2,x1,z1,tn,dd,e4,e6,ha,wa,e8,n3]
  exact⟨_,rfl,g8,by show t8.length≤2000;omega,Ce rfl q2 (by unfold gD;exact bc.2 (by omega)) r8 (by omega) q4⟩
 ·have x1:v1.1=(3:Int):=hk
  have dd:fQ (3:Int)=false:=rfl
  have z1:((3:Int) != 0)=true:=rfl
  have n3:((3:Int)==3)=true:=rfl
  have hst:bq (v4.1.1,(0:Int),v4.1.2.2.1,v4.1.2.2.2.1,(P:Int),())=true:=by
   unfold bq at q4
   simp only[Bool.and_eq_true]at q4
   obtain⟨⟨⟨⟨y1,y2⟩,y3⟩,y4⟩,y5⟩:=q4
   have z5:aY (P:Int) 0 4294967295=true:=bc.2 (by omega)
   have z2:aY (0:Int) 0 15=true:=rfl
   unfold bq
   simp only[y1,z2,y3,y4,z5,Bool.and_self]
  simp only[e1,e2,x1,z1,tn,dd,e4,n3,e12,hc,XZ,if_false,wk]
  refine⟨_,rfl,g12,Nat.zero_le _,Ce rfl rfl rfl (fun v hv=>by cases hv) (Nat.zero_le _) ?_⟩
  show(bq (v4.1.1,(0:Int),v4.1.2.2.1,v4.1.2.2.2.1,(P:Int),())&&(((0:Int)==0)&&(tm (P:Int)&&((0:Int)==0))))=true
  rw[hst,hP,WH (by omega)]
  rfl
theorem A0:∀(k:Nat) (s:ah.T) (d:List Int),aI s→d.length+k≤1000→∃(s':ah.T) (d':List Int),ac fK (s,d,(k:Int),())=some (.inl (s',d',()))∧aI s'∧d'.length≤1000
 |0,s,d,hs,hl=>by
  refine⟨s,d, ?_,hs,by omega⟩
  rw[aj]
  simp only[fK,Cc]
 |k+1,s,d,hs,hl=>by
  obtain⟨y,hy,hd,hg⟩:=ay (n:=256) hs
  have hy:aa ((s.1,s.2.1,s.2.2.1,()),(256:Int),())=some y:=hy
  obtain⟨s',d',h1,h2,h3⟩:=A0 k (y.2.1.1,y.2.1.2.1,y.2.1.2.2.1,()) (d++ [y.1]) hg (by simp;omega)
  refine⟨s',d', ?_,h2,h3⟩
  rw[aj]
  simp only[fK,Cb,hy,Ca (show k≤1000000 by omega)]
  rw[aC (by simp;omega)]
  exact h1
theorem OM {s:ah.T}(n:Nat)(hn:n≤500)(hs:aI s):∃y,gL (s,(n:Int),())=some y∧(aI (y.2.1.1,y.2.1.2.1,y.2.1.2.2.1,())∧y.1.length≤2000):=by
 have wn:IntKind.i64.wrap ((n:Int)+1)=(n:Int)+1:=by rw[ai]<;>omega
 obtain⟨v1,e1,d1,g1⟩:=ay (n:=(n:Int)+1) hs
 have e1:aa ((s.1,s.2.1,s.2.2.1,()),(n:Int)+1,())=some v1:=e1
 obtain⟨a,ha,ha2⟩:=cb d1 (by omega)
 obtain⟨s3,t3,e3,g3,l3⟩:=A0 a (v1.2.1.1,v1.2.1.2.1,v1.2.1.2.2.1,()) [] g1 (by simp;omega)
 obtain⟨v5,e5,d5,g5⟩:=ay (n:=40) g3
 have e5:aa ((s3.1,s3.2.1,s3.2.2.1,()),(40:Int),())=some v5:=e5
 obtain⟨v6,e6,d6,g6⟩:=ay (n:=2) g5
 obtain⟨w,w1,w2,_⟩:=pick [(256:Int),(-1:Int)] d6 (by simp) (by simp)
 obtain⟨b,hb,hb2⟩:=cb d6 (by omega)
 have wb:IntKind.i64.wrap ((1024:Int)+(b:Int))=(1024:Int)+(b:Int):=by rw[ai]<;>omega
 have hr:∀ {R:Type} (q:Option R),aH (t3.length+ [w].length) q=q:=fun q=>aC (by simp;omega)
 have hr2:∀ {R:Type} (q:Option R),aH (((1024:Int)+(b:Int)).toNat) q=q:=fun q=>aC (by omega)
 have hc:((0:Int)≤(1024:Int)+(b:Int)∧(1024:Int)+(b:Int)≤(1024:Int)+(b:Int))=True:=eq_true ⟨by omega,by omega⟩
 rw[hb]at w1 w2
 unfold gL
 simp only[wn,e1,ha,e3,e5,e6,hb,w1,w2,ab,hr,wb,hc,if_true,hr2]
 split
 ·exact⟨_,rfl,g6,by simp;omega⟩
 ·split
  ·exact⟨_,rfl,g6,by simp;omega⟩
  ·exact⟨_,rfl,g5,by show t3.length≤2000;omega⟩
theorem ON {s:ah.T}(hs:aI s):∃y,jt (s,())=some y∧(aI (y.2.1.1,y.2.1.2.1,y.2.1.2.2.1,())∧y.1.2.2.2.1.length≤2000):=by
 obtain⟨v1,e1,g1,l1,_⟩:=aaZ hs
 have e1:sX ((s.1,s.2.1,s.2.2.1,()),())=some v1:=e1
 obtain⟨v2,e2,d2,g2⟩:=ay (n:=30) g1
 obtain⟨v3,e3,d3,g3⟩:=ay (n:=6) g2
 obtain⟨v4,e4,d4,g4⟩:=ay (n:=3) g2
 obtain⟨w,w1,w2,_⟩:=pick [(-1:Int),(1:Int),(8:Int)] d4 (by simp) (by simp)
 obtain⟨v7,e7,g7⟩:=TW g2
 obtain⟨v8,e8,g8,l8⟩:=OM 3 (by omega) g2
 have e8:gL ((v2.2.1.1,v2.2.1.2.1,v2.2.1.2.2.1,()),(3:Int),())=some v8:=e8
 obtain⟨v9,e9,d9,g9⟩:=ay (n:=2) g2
 obtain⟨b,hb,hb2⟩:=cb d9 (by omega)
 have wb:IntKind.i64.wrap ((32:Int)+(b:Int))=(32:Int)+(b:Int):=by rw[ai]<;>omega
 have hr2:∀ {R:Type} (q:Option R),aH (((32:Int)+(b:Int)).toNat) q=q:=fun q=>aC (by omega)
 have hc:((0:Int)≤(32:Int)+(b:Int)∧(32:Int)+(b:Int)≤(32:Int)+(b:Int))=True:=eq_true ⟨by omega,by omega⟩
 have hrep:(List.replicate ((32:Int)+(b:Int)).toNat (0:Int)).length≤2000:=by rw[List.length_replicate];omega
 unfold jt
 simp only[e1,e2,e3,e4,w1,w2,ab,e7,e8,e9,hb,wb,hc,if_true,hr2]
 repeat' first
  |exact⟨_,rfl,by assumption,by assumption⟩
  |split
theorem aa0(m:ar.T)(st:ak.T)(hz:eM m):r7 (m,st,())=some ((bL m&&aP m st),()):=by
 have hM:=Gf m hz
 have hM:ix ((m.1,m.2.1,m.2.2.1,m.2.2.2.1,()),())=_:=hM
 unfold r7
 simp only[hM]
 cases h:bL m with
 |false=>rfl
 |true=>
  have hB:=PI m st h
  have hB:fZ ((m.1,m.2.1,m.2.2.1,m.2.2.2.1,()),(st.1,st.2.1,st.2.2.1,st.2.2.2.1,st.2.2.2.2.1,()),())=_:=hB
  simp only[hB,Bool.true_and]
theorem TZ {m:ar.T}{st:ak.T}(h:bL m=true)(hb:aP m st=true)(d:Nat)(hd:d&&& cL m.2.1=d)(hd2:d≤4294967295):aP m (st.1,st.2.1,st.2.2.1,st.2.2.2.1,(d:Int),())=true:=by
 obtain⟨a,ha,ea,b0,b1,c0,c1,hr,hs⟩:=Zm h hb
 have hst:=Gi hb
 unfold bq at hst
 simp only[Bool.and_eq_true]at hst
 obtain⟨⟨⟨⟨q1,q2⟩,q3⟩,q4⟩,q5⟩:=hst
 refine aaY a d ha ?_ ea b1 c1 rfl hd
 unfold bq
 simp only[q1,q2,q3,q4,bc.2 (show(0:Int)≤(d:Int)∧(d:Int)≤4294967295 from⟨by omega,by omega⟩),Bool.and_self]
theorem WI(z m:ar.T)(t st:ak.T)(f0:ba.T)(a b:Int)(c:ak.T):∀(k i:Nat) (s:ah.T) (d:List Int),i+k=d.length→d.length≤1000→aI s→
  ∃(s':ah.T) (d':List Int),ac am (s,z,t,f0,m,st,(a,b,c,d,()),(i:Int),())=some (.inl (s',z,t,f0,m,st,(a,b,c,d',()),()))∧aI s'∧d'.length=d.length
 |0,i,s,d,hi,hl,hs=>by
  have hi:i=d.length:=by omega
  refine⟨s,d, ?_,hs,rfl⟩
  rw[aj,hi]
  simp only[am,bu]
 |k+1,i,s,d,hi,hl,hs=>by
  have hlt:i<d.length:=by omega
  obtain⟨y,hy,hd,hg⟩:=ay (n:=256) hs
  obtain⟨s',d',h1,h2,h3⟩:=WI z m t st f0 a b c k (i+1) y.2.1 (d.set i y.1) (by rw[List.length_set];omega) (by rw[List.length_set];omega) hg
  refine⟨s',d', ?_,h2,by rw[h3,List.length_set]⟩
  rw[aj]
  simp only[am,bj hlt,jI,hy,au hlt,ab,Int.toNat_natCast,List.getElem?_eq_getElem hlt,aL hlt (show d.length≤1099511627776 by omega)]
  exact h1
theorem L6 {m:ar.T}{st:ak.T}(h:bL m=true)(hb:aP m st=true){s:ah.T}(hs:aI s):∃v10 v11 v12 F s4 f' v19 v20,aa (s,(256:Int),())=some v10∧aa (v10.2.1,(8:Int),())=some v11∧aa (v11.2.1,(3:Int),())=some v12∧
  aw (m,st,v10.1,IntKind.i64.wrap (v11.1*(IntKind.i64.wrap (Int.tdiv v12.1 (2:Int)))),())=some (F,())∧ac am (v12.2.1,((0:Int),[],[],[],()),((0:Int),(0:Int),(0:Int),(0:Int),(0:Int),()),((0:Int),(0:Int),((0:Int),(0:Int),(0:Int),(0:Int),(0:Int),()),[],()),m,st,F,(0:Int),())=some (.inl (s4,((0:Int),[],[],[],()),((0:Int),(0:Int),(0:Int),(0:Int),(0:Int),()),((0:Int),(0:Int),((0:Int),(0:Int),(0:Int),(0:Int),(0:Int),()),[],()),m,st,f',()))∧
  aa (s4,(24:Int),())=some v19∧az (v19.2.1,())=some v20∧aI v19.2.1∧aI v20.2.1∧f'.2.2.2.1.length≤2000:=by
 obtain⟨v10,e10,d10,g10⟩:=ay (n:=256) hs
 obtain⟨v11,e11,d11,g11⟩:=ay (n:=8) g10
 obtain⟨v12,e12,d12,g12⟩:=ay (n:=3) g11
 have eF:=XT m st v10.1 (IntKind.i64.wrap (v11.1*(IntKind.i64.wrap (Int.tdiv v12.1 (2:Int))))) h hb
 have hF:=U2 h hb v10.1 (IntKind.i64.wrap (v11.1*(IntKind.i64.wrap (Int.tdiv v12.1 (2:Int)))))
 obtain⟨a,b,c,d,⟨⟩⟩:ba.T:=qI m st v10.1 (IntKind.i64.wrap (v11.1*(IntKind.i64.wrap (Int.tdiv v12.1 (2:Int)))))
 obtain⟨s4,d',e4,g4,l4⟩:=WI ((0:Int),[],[],[],()) m ((0:Int),(0:Int),(0:Int),(0:Int),(0:Int),()) st ((0:Int),(0:Int),((0:Int),(0:Int),(0:Int),(0:Int),(0:Int),()),[],()) (qI m st v10.1 (IntKind.i64.wrap (v11.1*(IntKind.i64.wrap (Int.tdiv v12.1 (2:Int)))))).1 (qI m st v10.1 (IntKind.i64.wrap (v11.1*(IntKind.i64.wrap (Int.tdiv v12.1 (2:Int)))))).2.1 (qI m st v10.1 (IntKind.i64.wrap (v11.1*(IntKind.i64.wrap (Int.tdiv v12.1 (2:Int)))))).2.2.1 (qI m st v10.1 (IntKind.i64.wrap (v11.1*(IntKind.i64.wrap (Int.tdiv v12.1 (2:Int)))))).2.2.2.1.length 0 v12.2.1 (qI m st v10.1 (IntKind.i64.wrap (v11.1*(IntKind.i64.wrap (Int.tdiv v12.1 (2:Int)))))).2.2.2.1 (by omega) (by omega) g12
 obtain⟨v19,e19,d19,g19⟩:=ay (n:=24) g4
 obtain⟨v20,e20,g20,_⟩:=WG g19
 exact⟨v10,v11,v12,_,s4,_,v19,v20,e10,e11,e12,eF,e4,e19,e20,g19,g20,by show d'.length≤2000;omega⟩
theorem Zq {k A:Nat}(h:A.testBit k=true):2^k&&& A=2^k:=by
 refine Nat.eq_of_testBit_eq fun i=> ?_
 rw[Nat.testBit_and,Nat.testBit_two_pow]
 by_cases hi:k=i
 ·subst hi
  simp[h]
 ·simp[hi]
theorem aa1 {s:ah.T}(hs:aI s):∃y,sY (s,())=some y∧(aI y.2.2.2.1∧xB y.1∧y.2.2.1.2.2.2.1.length≤2000):=by
 obtain⟨v1,e1,g1,hS⟩:=aaX hs
 have g1:aI v1.2.2.1:=g1
 have hz:=mN hS
 have e2:=aa0 v1.1 v1.2.1 hz
 obtain⟨v3,e3,g3,l3⟩:=ON g1
 have g3:aI v3.2.1:=g3
 unfold sY
 simp only[e1,e2,cE,jI,e3]
 rcases Bool.eq_false_or_eq_true (bL v1.1&&aP v1.1 v1.2.1)with hb|hb
 rotate_left
 ·simp only[hb,Bool.not_false]
  exact⟨_,rfl,g3,hS,l3⟩
 ·have hb':=hb
  rw[Bool.and_eq_true]at hb'
  obtain⟨h1,h2⟩:=hb'
  obtain⟨v4,e4,d4,g4⟩:=ay (n:=16) g1
  have g4:aI v4.2.1:=g4
  obtain⟨v5,e5,g5,l5⟩:=ON g4
  have g5:aI v5.2.1:=g5
  obtain⟨hd,_,_⟩:=jj v1.1 v1.2.1 h1 h2
  obtain⟨v7,e7,d7,g7⟩:=ay (n:=6) g4
  have g7:aI v7.2.1:=g7
  obtain⟨_,hN,_⟩:=jW h1
  have hlen:1≤v1.1.2.1.length:=by
   unfold fO at hN
   rw[Bool.and_eq_true]at hN
   have:=(bc.1 hN.1).1
   omega
  have hn0:av v1.1.2.1 (0:Int)=some v1.1.2.1[0]:=au hlen
  obtain⟨_,hid⟩:=B2 hN
  obtain⟨k,hk,ek⟩:=hid _ (List.getElem_mem hlen)
  obtain⟨P,hP⟩:∃P:Nat,P=2^k:=⟨_,rfl⟩
  have hP2:P≤2147483648:=by rw[hP];exact Nat.pow_le_pow_right (by decide) (show k≤31 by omega)
  have wk:IntKind.i64.wrap ((1:Int)*(2:Int)^min (IntKind.u64.wrap (v1.1.2.1[0].1)).toNat IntKind.i64.bits)=(P:Int):=by
   have e:(v1.1.2.1[0].1:Int)=(k:Int):=ek
   have:(2:Int)^k=(P:Int):=by rw[hP,Int.natCast_pow];rfl
   rw[e,F9 (by omega),o5 (by omega),Int.one_mul,this,ai]<;>omega
  have bz:aP v1.1 (v1.2.1.1,v1.2.1.2.1,v1.2.1.2.2.1,v1.2.1.2.2.2.1,(0:Int),())=true:=TZ h1 h2 0 (by simp) (by omega)
  obtain⟨a10,a11,a12,aF,a4,af,a19,a20,k1,k2,k3,k4,k5,k6,k7,k8,k9,k10⟩:=L6 h1 bz g7
  obtain⟨c10,c11,c12,cF,c4,cf,c19,c20,n1,n2,n3,n4,n5,n6,n7,n8,n9,n10⟩:=L6 h1 h2 g7
  obtain⟨r10,r11,r12,rF,r4,rf,r19,r20,m1,m2,m3,m4,m5,m6,m7,m8,m9,m10⟩:=L6 h1 h2 g4
  simp only[hb,Bool.not_true,e4,e5,hd,e7,hn0,ab,XZ,if_false,wk]
  split
  ·exact⟨_,rfl,g5,hS,l5⟩
  ·split
   ·split
    ·cases hp:v1.1.2.1[0].2.2.2.1 with
     |true=>
      simp only[k1,k2,k3,k4,k5,k6]
      split
      ·simp only[k7]
       exact⟨_,rfl,k9,hS,k10⟩
      ·exact⟨_,rfl,k8,hS,k10⟩
     |false=>
      have bk:aP v1.1 (v1.2.1.1,v1.2.1.2.1,v1.2.1.2.2.1,v1.2.1.2.2.2.1,(P:Int),())=true:=TZ h1 h2 P (by rw[hP];exact Zq (NW _ 0 k (.inr ⟨_,List.getElem_mem hlen,hp,by rw[ek,Int.toNat_natCast]⟩))) (by omega)
      obtain⟨b10,b11,b12,bF,b4,bf,b19,b20,j1,j2,j3,j4,j5,j6,j7,j8,j9,j10⟩:=L6 h1 bk g7
      simp only[j1,j2,j3,j4,j5,j6]
      split
      ·simp only[j7]
       exact⟨_,rfl,j9,hS,j10⟩
      ·exact⟨_,rfl,j8,hS,j10⟩
    ·simp only[n1,n2,n3,n4,n5,n6]
     split
     ·simp only[n7]
      exact⟨_,rfl,n9,hS,n10⟩
     ·exact⟨_,rfl,n8,hS,n10⟩
   ·simp only[m1,m2,m3,m4,m5,m6]
    split
    ·simp only[m7]
     exact⟨_,rfl,m9,hS,m10⟩
    ·exact⟨_,rfl,m8,hS,m10⟩
end Go.Proofs.YtckljdhdadiphaaGreatDoor
